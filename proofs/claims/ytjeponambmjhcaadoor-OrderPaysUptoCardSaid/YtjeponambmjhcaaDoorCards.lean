/-
  DERIVED. GIVEN WITH THE SEED: THE CARDS: each row of YtjeponambmjhcaaDoorRows.lean that lists a variable, with what it lists TIED to the program's text (the seventh form; the later family's looks); each row that meets fmt, with fmt's text TOLD by the authors' own Lean function (tested against real Go, not proved from fmt's source: count such statements apart). THE CARD IS WHAT COUNTS. Prove the row's statement (the work); the ties are given (YtjeponambmjhcaaDoorTie.lean); close each card by the builder's one call (the guide's Derived/Test/ToyasCard.lean, 'card_holds'). Laid BY PROGRAM, IN A SANDBOX (cutbox-door.mjs). By AI agents, Wed Nov 11 2026. No macro, syntax, notation, axiom, sorry.
-/
import Derived.Test.YtjeponambmjhcaaDoorRows
import GoSem.ClaimSeven
namespace Go.Proofs.YtjeponambmjhcaaDoor
namespace Rows

/-- THE TIED CARD OF 'refrainlaw18.OrderPays'. -/
def orderPaysCard : Claim7 := { stood := { row := orderPaysRow, standIns := [], harness := (true, "54e7085cfa2a299d10c44696779f5893549dec791202a316398e4a83df034d49"), looks := false }, kinds := [], alts := [], laidByText := true, laidKinds := [.data, .data, .data], laidTests := true, laidLooks := .later }
def OrderPaysCardSaid : Prop := Claim7.holds Tryd.pinned (.plain (OpenSpec.ofChange orderPaysSpec)) orderPaysCard

/-- THE TIED CARD OF 'refrainlaw18.OrderSorted'. -/
def orderSortedCard : Claim7 := { stood := { row := orderSortedRow, standIns := [], harness := (true, "54e7085cfa2a299d10c44696779f5893549dec791202a316398e4a83df034d49"), looks := false }, kinds := [], alts := [], laidByText := true, laidKinds := [.data, .data, .data], laidTests := true, laidLooks := .later }
def OrderSortedCardSaid : Prop := Claim7.holds Tryd.pinned (.plain (OpenSpec.ofChange orderSortedSpec)) orderSortedCard

/-- THE SECOND FORM's CARD OF 'refrainlaw18.OrderPays'. -/
def orderPaysUptoCard : Claim7 := { stood := { row := orderPaysUptoRow, standIns := [], harness := (true, "54e7085cfa2a299d10c44696779f5893549dec791202a316398e4a83df034d49"), looks := false }, kinds := [], alts := [], laidByText := true, laidKinds := [.data, .data, .data], laidTests := true, laidLooks := .later }
def OrderPaysUptoCardSaid : Prop := Claim7.holds Tryd.pinned (.plain (OpenSpec.upto orderPaysSpec)) orderPaysUptoCard

/-- THE SECOND FORM's CARD OF 'refrainlaw18.OrderSorted'. -/
def orderSortedUptoCard : Claim7 := { stood := { row := orderSortedUptoRow, standIns := [], harness := (true, "54e7085cfa2a299d10c44696779f5893549dec791202a316398e4a83df034d49"), looks := false }, kinds := [], alts := [], laidByText := true, laidKinds := [.data, .data, .data], laidTests := true, laidLooks := .later }
def OrderSortedUptoCardSaid : Prop := Claim7.holds Tryd.pinned (.plain (OpenSpec.upto orderSortedSpec)) orderSortedUptoCard
end Rows
end Go.Proofs.YtjeponambmjhcaaDoor
