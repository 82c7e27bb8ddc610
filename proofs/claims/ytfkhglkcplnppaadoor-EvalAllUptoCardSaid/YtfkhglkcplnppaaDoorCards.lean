/-
  DERIVED. GIVEN WITH THE SEED: THE CARDS: each row of YtfkhglkcplnppaaDoorRows.lean that lists a variable, with what it lists TIED to the program's text (the seventh form; the later family's looks); each row that meets fmt, with fmt's text TOLD by the authors' own Lean function (tested against real Go, not proved from fmt's source: count such statements apart). THE CARD IS WHAT COUNTS. Prove the row's statement (the work); the ties are given (YtfkhglkcplnppaaDoorTie.lean); close each card by the builder's one call (the guide's Derived/Test/ToyasCard.lean, 'card_holds'). Laid BY PROGRAM, IN A SANDBOX (cutbox-door.mjs). By AI agents, Wed Nov 11 2026. No macro, syntax, notation, axiom, sorry.
-/
import Derived.Test.YtfkhglkcplnppaaDoorRows
import GoSem.ClaimSeven
namespace Go.Proofs.YtfkhglkcplnppaaDoor
namespace Rows

/-- THE TIED CARD OF 'refrainlaw11.EvalAll'. -/
def evalAllCard : Claim7 := { stood := { row := evalAllRow, standIns := [], harness := (true, "ce8052718482162f2bd9f9d562281d952ecdebe645c768acdea1829156359453"), looks := false }, kinds := [], alts := [], laidByText := true, laidKinds := [.data], laidTests := true, laidLooks := .later }
def EvalAllCardSaid : Prop := Claim7.holds Tryd.pinned (.plain (OpenSpec.ofChange evalAllSpec)) evalAllCard

/-- THE TIED CARD OF 'refrainlaw11.EvalSums'. -/
def evalSumsCard : Claim7 := { stood := { row := evalSumsRow, standIns := [], harness := (true, "ce8052718482162f2bd9f9d562281d952ecdebe645c768acdea1829156359453"), looks := false }, kinds := [], alts := [], laidByText := true, laidKinds := [.data], laidTests := true, laidLooks := .later }
def EvalSumsCardSaid : Prop := Claim7.holds Tryd.pinned (.plain (OpenSpec.ofChange evalSumsSpec)) evalSumsCard

/-- THE TIED CARD OF 'refrainlaw11.EvalPlaces'. -/
def evalPlacesCard : Claim7 := { stood := { row := evalPlacesRow, standIns := [], harness := (true, "ce8052718482162f2bd9f9d562281d952ecdebe645c768acdea1829156359453"), looks := false }, kinds := [], alts := [], laidByText := true, laidKinds := [.data], laidTests := true, laidLooks := .later }
def EvalPlacesCardSaid : Prop := Claim7.holds Tryd.pinned (.plain (OpenSpec.ofChange evalPlacesSpec)) evalPlacesCard

/-- THE TIED CARD OF 'refrainlaw11.EvalBoth'. -/
def evalBothCard : Claim7 := { stood := { row := evalBothRow, standIns := [], harness := (true, "ce8052718482162f2bd9f9d562281d952ecdebe645c768acdea1829156359453"), looks := false }, kinds := [], alts := [], laidByText := true, laidKinds := [.data], laidTests := true, laidLooks := .later }
def EvalBothCardSaid : Prop := Claim7.holds Tryd.pinned (.plain (OpenSpec.ofChange evalBothSpec)) evalBothCard

/-- THE TIED CARD OF 'refrainlaw11.EvalDeep'. -/
def evalDeepCard : Claim7 := { stood := { row := evalDeepRow, standIns := [], harness := (true, "ce8052718482162f2bd9f9d562281d952ecdebe645c768acdea1829156359453"), looks := false }, kinds := [], alts := [], laidByText := true, laidKinds := [.data], laidTests := true, laidLooks := .later }
def EvalDeepCardSaid : Prop := Claim7.holds Tryd.pinned (.plain (OpenSpec.ofChange evalDeepSpec)) evalDeepCard

/-- THE SECOND FORM's CARD OF 'refrainlaw11.EvalAll'. -/
def evalAllUptoCard : Claim7 := { stood := { row := evalAllUptoRow, standIns := [], harness := (true, "ce8052718482162f2bd9f9d562281d952ecdebe645c768acdea1829156359453"), looks := false }, kinds := [], alts := [], laidByText := true, laidKinds := [.data], laidTests := true, laidLooks := .later }
def EvalAllUptoCardSaid : Prop := Claim7.holds Tryd.pinned (.plain (OpenSpec.upto evalAllSpec)) evalAllUptoCard

/-- THE SECOND FORM's CARD OF 'refrainlaw11.EvalSums'. -/
def evalSumsUptoCard : Claim7 := { stood := { row := evalSumsUptoRow, standIns := [], harness := (true, "ce8052718482162f2bd9f9d562281d952ecdebe645c768acdea1829156359453"), looks := false }, kinds := [], alts := [], laidByText := true, laidKinds := [.data], laidTests := true, laidLooks := .later }
def EvalSumsUptoCardSaid : Prop := Claim7.holds Tryd.pinned (.plain (OpenSpec.upto evalSumsSpec)) evalSumsUptoCard

/-- THE SECOND FORM's CARD OF 'refrainlaw11.EvalPlaces'. -/
def evalPlacesUptoCard : Claim7 := { stood := { row := evalPlacesUptoRow, standIns := [], harness := (true, "ce8052718482162f2bd9f9d562281d952ecdebe645c768acdea1829156359453"), looks := false }, kinds := [], alts := [], laidByText := true, laidKinds := [.data], laidTests := true, laidLooks := .later }
def EvalPlacesUptoCardSaid : Prop := Claim7.holds Tryd.pinned (.plain (OpenSpec.upto evalPlacesSpec)) evalPlacesUptoCard

/-- THE SECOND FORM's CARD OF 'refrainlaw11.EvalBoth'. -/
def evalBothUptoCard : Claim7 := { stood := { row := evalBothUptoRow, standIns := [], harness := (true, "ce8052718482162f2bd9f9d562281d952ecdebe645c768acdea1829156359453"), looks := false }, kinds := [], alts := [], laidByText := true, laidKinds := [.data], laidTests := true, laidLooks := .later }
def EvalBothUptoCardSaid : Prop := Claim7.holds Tryd.pinned (.plain (OpenSpec.upto evalBothSpec)) evalBothUptoCard

/-- THE SECOND FORM's CARD OF 'refrainlaw11.EvalDeep'. -/
def evalDeepUptoCard : Claim7 := { stood := { row := evalDeepUptoRow, standIns := [], harness := (true, "ce8052718482162f2bd9f9d562281d952ecdebe645c768acdea1829156359453"), looks := false }, kinds := [], alts := [], laidByText := true, laidKinds := [.data], laidTests := true, laidLooks := .later }
def EvalDeepUptoCardSaid : Prop := Claim7.holds Tryd.pinned (.plain (OpenSpec.upto evalDeepSpec)) evalDeepUptoCard
end Rows
end Go.Proofs.YtfkhglkcplnppaaDoor
