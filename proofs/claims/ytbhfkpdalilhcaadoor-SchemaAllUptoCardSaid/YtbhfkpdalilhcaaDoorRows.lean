/-
  NARROWER THAN 'FOR EVERY INPUT', by the rows' own cells (each row's printed sentence says how): SchemaEvents: laid · SchemaRound: laid · SchemaNames: laid · SchemaAll: laid.
  DERIVED. THE GIVEN ROWS OF THIS SEAT. 4 by the template 'for every input the law returns true; each argument reads behind the call as it read before'; 0 by the template 'total and deterministic' (their statements: YtbhfkpdalilhcaaDoorTotals.lean).
  GIVEN WITH THE SEED: the statements are not yours to turn. If you find one false, say at which input.
  Laid BY PROGRAM, IN A SANDBOX (cutbox-rows.mjs): the forced cells as the released guide's own fill.sh prints them over the translation addeae70e2066d39… (all of the seat's roots in one cut). By AI agents, Wed Nov 11 2026. No macro, syntax, notation, axiom, sorry.
-/
import Derived.Test.YtbhfkpdalilhcaaDoorChecked
import GoSem.Claim
import GoSem.ClaimJoined
import GoSem.ClaimMapViews
import Derived.JoinedTies
import Derived.KernelRfl
namespace Go.Proofs.YtbhfkpdalilhcaaDoor
/- THE CELL 'sum', in the pinned program and in every row, IS THE sha256 OF THE DUMP (.gsa) THAT YtbhfkpdalilhcaaDoorProg.lean LOADS. Nothing in Lean hashes anything: it is a label: what it is worth is what the hold of that sum in a sandbox is worth. -/
noncomputable def Tryd.pinned : Pinned := { name := "ytbhfkpdalilhcaadoor", sum := "addeae70e2066d39d34a48f86c7bb30e8b4b10632261acac9c3fb7855da16b6a", checked := Tryd.checked }
namespace Rows
def none {H : Type} : Left H := { results := [], args := [] }

/- WHAT THE LISTED PACKAGE-LEVEL VARIABLES READ AS WHEN THE CALL BEGINS. Each datum BY PROGRAM (the guide's laid-datum.mjs) off the statement by which the dump's own 'gosem.cut.vars' lays the variable. In a bare row this is a premise. The card (YtbhfkpdalilhcaaDoorCards.lean) ties it to the program's text. -/
def laid_refrain_schema_words {H : Type} : DataW H := .agg [.lit (.string [80, 65, 84, 84, 69, 82, 78]), .lit (.string [83, 69, 81]), .lit (.string [80, 65, 82, 84, 73, 84, 73, 79, 78]), .lit (.string [66, 89]), .lit (.string [87, 72, 69, 82, 69]), .lit (.string [87, 73, 84, 72, 73, 78]), .lit (.string [82, 69, 84, 85, 82, 78]), .lit (.string [65, 78, 68]), .lit (.string [79, 82]), .lit (.string [78, 79, 84]), .lit (.string [84, 82, 85, 69]), .lit (.string [70, 65, 76, 83, 69]), .lit (.string [84, 89, 80, 69]), .lit (.string [73, 78, 84]), .lit (.string [83, 84, 82]), .lit (.string [66, 79, 79, 76])]
def laid_refrain_schema_kinds {H : Type} : DataW H := .agg [.lit (.string []), .lit (.string [73, 78, 84]), .lit (.string [83, 84, 82]), .lit (.string [66, 79, 79, 76])]

/-- 'refrainlaw2.SchemaEvents': WHATEVER THE INPUT: true; the input reads as it did. -/
def schemaEventsSpec : ChangeSpec := { name := "schemaEvents", fn := fun _ => fun
  | [d1, d2, d3, d4, d5, d6] => { results := [.lit (.bool true)], args := [d1, d2, d3, d4, d5, d6] }
  | _ => none }
def schemaEventsRow : OpenClaim := { program := "ytbhfkpdalilhcaadoor", sum := "addeae70e2066d39d34a48f86c7bb30e8b4b10632261acac9c3fb7855da16b6a", func := "refrain/refrainlaw2.SchemaEvents", spec := "schemaEvents", unfollowed := true, recurses := true, named := ["refrain/schema.words"], apart := false, laid := [("refrain/schema.words", laid_refrain_schema_words)] }
def SchemaEventsSaid : Prop := schemaEventsRow.holds Tryd.pinned (OpenSpec.ofChange schemaEventsSpec)

/-- ITS FALSE NEIGHBOUR: 'it returns false'. Refute it at one input. -/
def schemaEventsWrong : ChangeSpec := { name := "schemaEvents", fn := fun _ => fun
  | [d1, d2, d3, d4, d5, d6] => { results := [.lit (.bool false)], args := [d1, d2, d3, d4, d5, d6] }
  | _ => none }
def SchemaEventsWrongFalsely : Prop := schemaEventsRow.holds Tryd.pinned (OpenSpec.ofChange schemaEventsWrong)

/-- 'refrainlaw2.SchemaRound': WHATEVER THE INPUT: true; the input reads as it did. -/
def schemaRoundSpec : ChangeSpec := { name := "schemaRound", fn := fun _ => fun
  | [d1, d2, d3, d4] => { results := [.lit (.bool true)], args := [d1, d2, d3, d4] }
  | _ => none }
def schemaRoundRow : OpenClaim := { program := "ytbhfkpdalilhcaadoor", sum := "addeae70e2066d39d34a48f86c7bb30e8b4b10632261acac9c3fb7855da16b6a", func := "refrain/refrainlaw2.SchemaRound", spec := "schemaRound", inPlace := ["internal/abi.NoEscape"], unfollowed := true, recurses := true, named := ["refrain/schema.words", "refrain/schema.kinds"], apart := false, laid := [("refrain/schema.words", laid_refrain_schema_words), ("refrain/schema.kinds", laid_refrain_schema_kinds)] }
def SchemaRoundSaid : Prop := schemaRoundRow.holds Tryd.pinned (OpenSpec.ofChange schemaRoundSpec)

/-- ITS FALSE NEIGHBOUR: 'it returns false'. Refute it at one input. -/
def schemaRoundWrong : ChangeSpec := { name := "schemaRound", fn := fun _ => fun
  | [d1, d2, d3, d4] => { results := [.lit (.bool false)], args := [d1, d2, d3, d4] }
  | _ => none }
def SchemaRoundWrongFalsely : Prop := schemaRoundRow.holds Tryd.pinned (OpenSpec.ofChange schemaRoundWrong)

/-- 'refrainlaw2.SchemaNames': WHATEVER THE INPUT: true; the input reads as it did. -/
def schemaNamesSpec : ChangeSpec := { name := "schemaNames", fn := fun _ => fun
  | [d] => { results := [.lit (.bool true)], args := [d] }
  | _ => none }
def schemaNamesRow : OpenClaim := { program := "ytbhfkpdalilhcaadoor", sum := "addeae70e2066d39d34a48f86c7bb30e8b4b10632261acac9c3fb7855da16b6a", func := "refrain/refrainlaw2.SchemaNames", spec := "schemaNames", inPlace := ["internal/bytealg.abigen_runtime_cmpstring"], unfollowed := true, recurses := true, named := ["refrain/schema.words"], apart := false, laid := [("refrain/schema.words", laid_refrain_schema_words)] }
def SchemaNamesSaid : Prop := schemaNamesRow.holds Tryd.pinned (OpenSpec.ofChange schemaNamesSpec)

/-- ITS FALSE NEIGHBOUR: 'it returns false'. Refute it at one input. -/
def schemaNamesWrong : ChangeSpec := { name := "schemaNames", fn := fun _ => fun
  | [d] => { results := [.lit (.bool false)], args := [d] }
  | _ => none }
def SchemaNamesWrongFalsely : Prop := schemaNamesRow.holds Tryd.pinned (OpenSpec.ofChange schemaNamesWrong)

/-- 'refrainlaw2.SchemaAll': WHATEVER THE INPUT: true; the input reads as it did. -/
def schemaAllSpec : ChangeSpec := { name := "schemaAll", fn := fun _ => fun
  | [d] => { results := [.lit (.bool true)], args := [d] }
  | _ => none }
def schemaAllRow : OpenClaim := { program := "ytbhfkpdalilhcaadoor", sum := "addeae70e2066d39d34a48f86c7bb30e8b4b10632261acac9c3fb7855da16b6a", func := "refrain/refrainlaw2.SchemaAll", spec := "schemaAll", inPlace := ["internal/abi.NoEscape", "internal/bytealg.abigen_runtime_cmpstring"], unfollowed := true, recurses := true, named := ["refrain/schema.kinds", "refrain/schema.words"], apart := false, laid := [("refrain/schema.words", laid_refrain_schema_words), ("refrain/schema.kinds", laid_refrain_schema_kinds)] }
def SchemaAllSaid : Prop := schemaAllRow.holds Tryd.pinned (OpenSpec.ofChange schemaAllSpec)

/-- ITS FALSE NEIGHBOUR: 'it returns false'. Refute it at one input. -/
def schemaAllWrong : ChangeSpec := { name := "schemaAll", fn := fun _ => fun
  | [d] => { results := [.lit (.bool false)], args := [d] }
  | _ => none }
def SchemaAllWrongFalsely : Prop := schemaAllRow.holds Tryd.pinned (OpenSpec.ofChange schemaAllWrong)

/- THE SECOND FORM. 'bulk': how many values and letters a reading holds, each counted each time it is reached (what is shared counts as often as it is met; a slice's spare places count too). A statement '..UptoSaid' is the law's where the arguments, and the package variables that the reading takes, are together of bulk at most 1048576: NARROWER than '..Said'. Prove '..Said' where nothing that the law and all that it calls make is longer than what came in: it says more and counts as full. Else prove '..UptoSaid'. A law counts once. -/
mutual
def uptoBulk {H : Type} : DataW H → Nat
  | .lit (.string bytes) => bytes.length + 1
  | .lit _ => 1
  | .nil => 1
  | .ptr d => uptoBulk d + 1
  | .slice elems spare => uptoBulkAll elems + uptoBulkAll spare + 1
  | .agg parts => uptoBulkAll parts + 1
  | .iface _ d => uptoBulk d + 1
  | .map entries => uptoBulkEntries entries + 1
  | .held _ => 1
def uptoBulkAll {H : Type} : List (DataW H) → Nat
  | [] => 0
  | d :: r => uptoBulk d + uptoBulkAll r
def uptoBulkEntries {H : Type} : List (Lit × DataW H) → Nat
  | [] => 0
  | x :: r => uptoBulkEntry x + uptoBulkEntries r
def uptoBulkEntry {H : Type} : Lit × DataW H → Nat
  | (.string bytes, d) => bytes.length + uptoBulk d + 1
  | (_, d) => uptoBulk d + 1
 end
def uptoSmall : (H : Type) → List (DataW H) → Bool := fun _ ds => decide (uptoBulkAll ds ≤ 1048576)
def OpenSpec.upto (s : _root_.Go.ChangeSpec) : _root_.Go.OpenSpec := { _root_.Go.OpenSpec.ofChange s with cond := some uptoSmall }

/-- 'refrainlaw2.SchemaEvents', WHERE WHAT IT READS IS OF BULK AT MOST 1048576: true; the input reads as it did. -/
def schemaEventsUptoRow : OpenClaim := { program := "ytbhfkpdalilhcaadoor", sum := "addeae70e2066d39d34a48f86c7bb30e8b4b10632261acac9c3fb7855da16b6a", func := "refrain/refrainlaw2.SchemaEvents", spec := "schemaEvents", unfollowed := true, recurses := true, named := ["refrain/schema.words"], apart := false, laid := [("refrain/schema.words", laid_refrain_schema_words)], narrowed := true }
def SchemaEventsUptoSaid : Prop := schemaEventsUptoRow.holds Tryd.pinned (OpenSpec.upto schemaEventsSpec)

/-- 'refrainlaw2.SchemaRound', WHERE WHAT IT READS IS OF BULK AT MOST 1048576: true; the input reads as it did. -/
def schemaRoundUptoRow : OpenClaim := { program := "ytbhfkpdalilhcaadoor", sum := "addeae70e2066d39d34a48f86c7bb30e8b4b10632261acac9c3fb7855da16b6a", func := "refrain/refrainlaw2.SchemaRound", spec := "schemaRound", inPlace := ["internal/abi.NoEscape"], unfollowed := true, recurses := true, named := ["refrain/schema.words", "refrain/schema.kinds"], apart := false, laid := [("refrain/schema.words", laid_refrain_schema_words), ("refrain/schema.kinds", laid_refrain_schema_kinds)], narrowed := true }
def SchemaRoundUptoSaid : Prop := schemaRoundUptoRow.holds Tryd.pinned (OpenSpec.upto schemaRoundSpec)

/-- 'refrainlaw2.SchemaNames', WHERE WHAT IT READS IS OF BULK AT MOST 1048576: true; the input reads as it did. -/
def schemaNamesUptoRow : OpenClaim := { program := "ytbhfkpdalilhcaadoor", sum := "addeae70e2066d39d34a48f86c7bb30e8b4b10632261acac9c3fb7855da16b6a", func := "refrain/refrainlaw2.SchemaNames", spec := "schemaNames", inPlace := ["internal/bytealg.abigen_runtime_cmpstring"], unfollowed := true, recurses := true, named := ["refrain/schema.words"], apart := false, laid := [("refrain/schema.words", laid_refrain_schema_words)], narrowed := true }
def SchemaNamesUptoSaid : Prop := schemaNamesUptoRow.holds Tryd.pinned (OpenSpec.upto schemaNamesSpec)

/-- 'refrainlaw2.SchemaAll', WHERE WHAT IT READS IS OF BULK AT MOST 1048576: true; the input reads as it did. -/
def schemaAllUptoRow : OpenClaim := { program := "ytbhfkpdalilhcaadoor", sum := "addeae70e2066d39d34a48f86c7bb30e8b4b10632261acac9c3fb7855da16b6a", func := "refrain/refrainlaw2.SchemaAll", spec := "schemaAll", inPlace := ["internal/abi.NoEscape", "internal/bytealg.abigen_runtime_cmpstring"], unfollowed := true, recurses := true, named := ["refrain/schema.kinds", "refrain/schema.words"], apart := false, laid := [("refrain/schema.words", laid_refrain_schema_words), ("refrain/schema.kinds", laid_refrain_schema_kinds)], narrowed := true }
def SchemaAllUptoSaid : Prop := schemaAllUptoRow.holds Tryd.pinned (OpenSpec.upto schemaAllSpec)

end Rows
end Go.Proofs.YtbhfkpdalilhcaaDoor
