/-
  DERIVED. GIVEN WITH THE SEED: THE CARDS: each row of YtkdjcmfmflljlaaDoorRows.lean that lists a variable, with what it lists TIED to the program's text (the seventh form; the later family's looks); each row that meets fmt, with fmt's text TOLD by the authors' own Lean function (tested against real Go, not proved from fmt's source: count such statements apart). THE CARD IS WHAT COUNTS. Prove the row's statement (the work); the ties are given (YtkdjcmfmflljlaaDoorTie.lean); close each card by the builder's one call (the guide's Derived/Test/ToyasCard.lean, 'card_holds'). Laid BY PROGRAM, IN A SANDBOX (cutbox-door.mjs). By AI agents, Wed Nov 11 2026. No macro, syntax, notation, axiom, sorry.
-/
import Derived.Test.YtkdjcmfmflljlaaDoorRows
import GoSem.ClaimSeven
namespace Go.Proofs.YtkdjcmfmflljlaaDoor
namespace Rows

/-- THE TIED CARD OF 'refrainlaw26.BoundLeast'. -/
def boundLeastCard : Claim7 := { stood := { row := boundLeastRow, standIns := [], harness := (true, "4b051b7f7ae1a388dd14690d065616251a989c011fca935e6b7fcef2fd3339bb"), looks := false }, kinds := [], alts := [], laidByText := true, laidKinds := [.data], laidTests := true, laidLooks := .later }
def BoundLeastCardSaid : Prop := Claim7.holds Tryd.pinned (.plain (OpenSpec.ofChange boundLeastSpec)) boundLeastCard

/-- THE TIED CARD OF 'refrainlaw26.BoundHolds'. -/
def boundHoldsCard : Claim7 := { stood := { row := boundHoldsRow, standIns := [], harness := (true, "4b051b7f7ae1a388dd14690d065616251a989c011fca935e6b7fcef2fd3339bb"), looks := false }, kinds := [], alts := [], laidByText := true, laidKinds := [.data], laidTests := true, laidLooks := .later }
def BoundHoldsCardSaid : Prop := Claim7.holds Tryd.pinned (.plain (OpenSpec.ofChange boundHoldsSpec)) boundHoldsCard

/-- THE TIED CARD OF 'refrainlaw26.BoundFollows'. -/
def boundFollowsCard : Claim7 := { stood := { row := boundFollowsRow, standIns := [], harness := (true, "4b051b7f7ae1a388dd14690d065616251a989c011fca935e6b7fcef2fd3339bb"), looks := false }, kinds := [], alts := [], laidByText := true, laidKinds := [.data], laidTests := true, laidLooks := .later }
def BoundFollowsCardSaid : Prop := Claim7.holds Tryd.pinned (.plain (OpenSpec.ofChange boundFollowsSpec)) boundFollowsCard

/-- THE SECOND FORM's CARD OF 'refrainlaw26.BoundLeast'. -/
def boundLeastUptoCard : Claim7 := { stood := { row := boundLeastUptoRow, standIns := [], harness := (true, "4b051b7f7ae1a388dd14690d065616251a989c011fca935e6b7fcef2fd3339bb"), looks := false }, kinds := [], alts := [], laidByText := true, laidKinds := [.data], laidTests := true, laidLooks := .later }
def BoundLeastUptoCardSaid : Prop := Claim7.holds Tryd.pinned (.plain (OpenSpec.upto boundLeastSpec)) boundLeastUptoCard

/-- THE SECOND FORM's CARD OF 'refrainlaw26.BoundHolds'. -/
def boundHoldsUptoCard : Claim7 := { stood := { row := boundHoldsUptoRow, standIns := [], harness := (true, "4b051b7f7ae1a388dd14690d065616251a989c011fca935e6b7fcef2fd3339bb"), looks := false }, kinds := [], alts := [], laidByText := true, laidKinds := [.data], laidTests := true, laidLooks := .later }
def BoundHoldsUptoCardSaid : Prop := Claim7.holds Tryd.pinned (.plain (OpenSpec.upto boundHoldsSpec)) boundHoldsUptoCard

/-- THE SECOND FORM's CARD OF 'refrainlaw26.BoundFollows'. -/
def boundFollowsUptoCard : Claim7 := { stood := { row := boundFollowsUptoRow, standIns := [], harness := (true, "4b051b7f7ae1a388dd14690d065616251a989c011fca935e6b7fcef2fd3339bb"), looks := false }, kinds := [], alts := [], laidByText := true, laidKinds := [.data], laidTests := true, laidLooks := .later }
def BoundFollowsUptoCardSaid : Prop := Claim7.holds Tryd.pinned (.plain (OpenSpec.upto boundFollowsSpec)) boundFollowsUptoCard
end Rows
end Go.Proofs.YtkdjcmfmflljlaaDoor
