/-
  NARROWER THAN 'FOR EVERY INPUT', by the rows' own cells (each row's printed sentence says how): EvalAll: loops, laid · EvalSums: laid · EvalPlaces: laid · EvalBoth: laid · EvalDeep: laid.
  DERIVED. THE GIVEN ROWS OF THIS SEAT. 5 by the template 'for every input the law returns true; each argument reads behind the call as it read before'; 0 by the template 'total and deterministic' (their statements: YtfkhglkcplnppaaDoorTotals.lean).
  GIVEN WITH THE SEED: the statements are not yours to turn. If you find one false, say at which input.
  Laid BY PROGRAM, IN A SANDBOX (cutbox-rows.mjs): the forced cells as the released guide's own fill.sh prints them over the translation 266279b8874fe9ec… (all of the seat's roots in one cut). By AI agents, Wed Nov 11 2026. No macro, syntax, notation, axiom, sorry.
-/
import Derived.Test.YtfkhglkcplnppaaDoorChecked
import GoSem.Claim
import GoSem.ClaimJoined
import GoSem.ClaimMapViews
import Derived.JoinedTies
import Derived.KernelRfl
namespace Go.Proofs.YtfkhglkcplnppaaDoor
/- THE CELL 'sum', in the pinned program and in every row, IS THE sha256 OF THE DUMP (.gsa) THAT YtfkhglkcplnppaaDoorProg.lean LOADS. Nothing in Lean hashes anything: it is a label: what it is worth is what the hold of that sum in a sandbox is worth. -/
noncomputable def Tryd.pinned : Pinned := { name := "ytfkhglkcplnppaadoor", sum := "266279b8874fe9ec595e96fe6b58f2b8d4e8e4709af54df3683b40719c26ea14", checked := Tryd.checked }
namespace Rows
def none {H : Type} : Left H := { results := [], args := [] }

/- WHAT THE LISTED PACKAGE-LEVEL VARIABLES READ AS WHEN THE CALL BEGINS. Each datum BY PROGRAM (the guide's laid-datum.mjs) off the statement by which the dump's own 'gosem.cut.vars' lays the variable. In a bare row this is a premise. The card (YtfkhglkcplnppaaDoorCards.lean) ties it to the program's text. -/
def laid_refrain_value_wants {H : Type} : DataW H := .agg [.lit (.int .i64 0), .lit (.int .i64 1), .lit (.int .i64 2), .lit (.int .i64 1), .lit (.int .i64 1), .lit (.int .i64 1), .lit (.int .i64 3), .lit (.int .i64 3), .lit (.int .i64 4), .lit (.int .i64 4), .lit (.int .i64 4), .lit (.int .i64 4), .lit (.int .i64 2), .lit (.int .i64 2)]

/-- 'refrainlaw11.EvalAll': WHATEVER THE INPUT: true; the input reads as it did. -/
def evalAllSpec : ChangeSpec := { name := "evalAll", fn := fun _ => fun
  | [d] => { results := [.lit (.bool true)], args := [d] }
  | _ => none }
def evalAllRow : OpenClaim := { program := "ytfkhglkcplnppaadoor", sum := "266279b8874fe9ec595e96fe6b58f2b8d4e8e4709af54df3683b40719c26ea14", func := "refrain/refrainlaw11.EvalAll", spec := "evalAll", unfollowed := true, recurses := true, named := ["refrain/value.wants"], loops := true, apart := false, laid := [("refrain/value.wants", laid_refrain_value_wants)] }
def EvalAllSaid : Prop := evalAllRow.holds Tryd.pinned (OpenSpec.ofChange evalAllSpec)

/-- ITS FALSE NEIGHBOUR: 'it returns false'. Refute it at one input. -/
def evalAllWrong : ChangeSpec := { name := "evalAll", fn := fun _ => fun
  | [d] => { results := [.lit (.bool false)], args := [d] }
  | _ => none }
def EvalAllWrongFalsely : Prop := evalAllRow.holds Tryd.pinned (OpenSpec.ofChange evalAllWrong)

/-- 'refrainlaw11.EvalSums': WHATEVER THE INPUT: true; the input reads as it did. -/
def evalSumsSpec : ChangeSpec := { name := "evalSums", fn := fun _ => fun
  | [d1, d2] => { results := [.lit (.bool true)], args := [d1, d2] }
  | _ => none }
def evalSumsRow : OpenClaim := { program := "ytfkhglkcplnppaadoor", sum := "266279b8874fe9ec595e96fe6b58f2b8d4e8e4709af54df3683b40719c26ea14", func := "refrain/refrainlaw11.EvalSums", spec := "evalSums", unfollowed := true, recurses := true, named := ["refrain/value.wants"], apart := false, laid := [("refrain/value.wants", laid_refrain_value_wants)] }
def EvalSumsSaid : Prop := evalSumsRow.holds Tryd.pinned (OpenSpec.ofChange evalSumsSpec)

/-- ITS FALSE NEIGHBOUR: 'it returns false'. Refute it at one input. -/
def evalSumsWrong : ChangeSpec := { name := "evalSums", fn := fun _ => fun
  | [d1, d2] => { results := [.lit (.bool false)], args := [d1, d2] }
  | _ => none }
def EvalSumsWrongFalsely : Prop := evalSumsRow.holds Tryd.pinned (OpenSpec.ofChange evalSumsWrong)

/-- 'refrainlaw11.EvalPlaces': WHATEVER THE INPUT: true; the input reads as it did. -/
def evalPlacesSpec : ChangeSpec := { name := "evalPlaces", fn := fun _ => fun
  | [d1, d2, d3] => { results := [.lit (.bool true)], args := [d1, d2, d3] }
  | _ => none }
def evalPlacesRow : OpenClaim := { program := "ytfkhglkcplnppaadoor", sum := "266279b8874fe9ec595e96fe6b58f2b8d4e8e4709af54df3683b40719c26ea14", func := "refrain/refrainlaw11.EvalPlaces", spec := "evalPlaces", unfollowed := true, recurses := true, named := ["refrain/value.wants"], apart := false, laid := [("refrain/value.wants", laid_refrain_value_wants)] }
def EvalPlacesSaid : Prop := evalPlacesRow.holds Tryd.pinned (OpenSpec.ofChange evalPlacesSpec)

/-- ITS FALSE NEIGHBOUR: 'it returns false'. Refute it at one input. -/
def evalPlacesWrong : ChangeSpec := { name := "evalPlaces", fn := fun _ => fun
  | [d1, d2, d3] => { results := [.lit (.bool false)], args := [d1, d2, d3] }
  | _ => none }
def EvalPlacesWrongFalsely : Prop := evalPlacesRow.holds Tryd.pinned (OpenSpec.ofChange evalPlacesWrong)

/-- 'refrainlaw11.EvalBoth': WHATEVER THE INPUT: true; the input reads as it did. -/
def evalBothSpec : ChangeSpec := { name := "evalBoth", fn := fun _ => fun
  | [d1, d2] => { results := [.lit (.bool true)], args := [d1, d2] }
  | _ => none }
def evalBothRow : OpenClaim := { program := "ytfkhglkcplnppaadoor", sum := "266279b8874fe9ec595e96fe6b58f2b8d4e8e4709af54df3683b40719c26ea14", func := "refrain/refrainlaw11.EvalBoth", spec := "evalBoth", unfollowed := true, recurses := true, named := ["refrain/value.wants"], apart := false, laid := [("refrain/value.wants", laid_refrain_value_wants)] }
def EvalBothSaid : Prop := evalBothRow.holds Tryd.pinned (OpenSpec.ofChange evalBothSpec)

/-- ITS FALSE NEIGHBOUR: 'it returns false'. Refute it at one input. -/
def evalBothWrong : ChangeSpec := { name := "evalBoth", fn := fun _ => fun
  | [d1, d2] => { results := [.lit (.bool false)], args := [d1, d2] }
  | _ => none }
def EvalBothWrongFalsely : Prop := evalBothRow.holds Tryd.pinned (OpenSpec.ofChange evalBothWrong)

/-- 'refrainlaw11.EvalDeep': WHATEVER THE INPUT: true; the input reads as it did. -/
def evalDeepSpec : ChangeSpec := { name := "evalDeep", fn := fun _ => fun
  | [d] => { results := [.lit (.bool true)], args := [d] }
  | _ => none }
def evalDeepRow : OpenClaim := { program := "ytfkhglkcplnppaadoor", sum := "266279b8874fe9ec595e96fe6b58f2b8d4e8e4709af54df3683b40719c26ea14", func := "refrain/refrainlaw11.EvalDeep", spec := "evalDeep", unfollowed := true, recurses := true, named := ["refrain/value.wants"], apart := false, laid := [("refrain/value.wants", laid_refrain_value_wants)] }
def EvalDeepSaid : Prop := evalDeepRow.holds Tryd.pinned (OpenSpec.ofChange evalDeepSpec)

/-- ITS FALSE NEIGHBOUR: 'it returns false'. Refute it at one input. -/
def evalDeepWrong : ChangeSpec := { name := "evalDeep", fn := fun _ => fun
  | [d] => { results := [.lit (.bool false)], args := [d] }
  | _ => none }
def EvalDeepWrongFalsely : Prop := evalDeepRow.holds Tryd.pinned (OpenSpec.ofChange evalDeepWrong)

/- THE SECOND FORM. 'bulk': how many values and letters a reading holds, each counted each time it is reached (what is shared counts as often as it is met; a slice's spare places count too). A statement '..UptoSaid' is the law's where the arguments, and the package variables that the reading takes, are together of bulk at most 1048576: NARROWER than '..Said'. Prove '..Said' where nothing that the law and all that it calls make is longer than what came in: it says more and counts as full. Else prove '..UptoSaid'. A law counts once. -/
mutual
def uptoBulk {H : Type} : DataW H → Nat
  | .lit (.string bytes) => bytes.length + 1
  | .lit _ => 1
  | .nil => 1
  | .ptr d => uptoBulk d + 1
  | .slice elems spare => uptoBulkAll elems + uptoBulkAll spare + 1
  | .agg parts => uptoBulkAll parts + 1
  | .iface _ d => uptoBulk d + 1
  | .map entries => uptoBulkEntries entries + 1
  | .held _ => 1
def uptoBulkAll {H : Type} : List (DataW H) → Nat
  | [] => 0
  | d :: r => uptoBulk d + uptoBulkAll r
def uptoBulkEntries {H : Type} : List (Lit × DataW H) → Nat
  | [] => 0
  | x :: r => uptoBulkEntry x + uptoBulkEntries r
def uptoBulkEntry {H : Type} : Lit × DataW H → Nat
  | (.string bytes, d) => bytes.length + uptoBulk d + 1
  | (_, d) => uptoBulk d + 1
 end
def uptoSmall : (H : Type) → List (DataW H) → Bool := fun _ ds => decide (uptoBulkAll ds ≤ 1048576)
def OpenSpec.upto (s : _root_.Go.ChangeSpec) : _root_.Go.OpenSpec := { _root_.Go.OpenSpec.ofChange s with cond := some uptoSmall }

/-- 'refrainlaw11.EvalAll', WHERE WHAT IT READS IS OF BULK AT MOST 1048576: true; the input reads as it did. -/
def evalAllUptoRow : OpenClaim := { program := "ytfkhglkcplnppaadoor", sum := "266279b8874fe9ec595e96fe6b58f2b8d4e8e4709af54df3683b40719c26ea14", func := "refrain/refrainlaw11.EvalAll", spec := "evalAll", unfollowed := true, recurses := true, named := ["refrain/value.wants"], loops := true, apart := false, laid := [("refrain/value.wants", laid_refrain_value_wants)], narrowed := true }
def EvalAllUptoSaid : Prop := evalAllUptoRow.holds Tryd.pinned (OpenSpec.upto evalAllSpec)

/-- 'refrainlaw11.EvalSums', WHERE WHAT IT READS IS OF BULK AT MOST 1048576: true; the input reads as it did. -/
def evalSumsUptoRow : OpenClaim := { program := "ytfkhglkcplnppaadoor", sum := "266279b8874fe9ec595e96fe6b58f2b8d4e8e4709af54df3683b40719c26ea14", func := "refrain/refrainlaw11.EvalSums", spec := "evalSums", unfollowed := true, recurses := true, named := ["refrain/value.wants"], apart := false, laid := [("refrain/value.wants", laid_refrain_value_wants)], narrowed := true }
def EvalSumsUptoSaid : Prop := evalSumsUptoRow.holds Tryd.pinned (OpenSpec.upto evalSumsSpec)

/-- 'refrainlaw11.EvalPlaces', WHERE WHAT IT READS IS OF BULK AT MOST 1048576: true; the input reads as it did. -/
def evalPlacesUptoRow : OpenClaim := { program := "ytfkhglkcplnppaadoor", sum := "266279b8874fe9ec595e96fe6b58f2b8d4e8e4709af54df3683b40719c26ea14", func := "refrain/refrainlaw11.EvalPlaces", spec := "evalPlaces", unfollowed := true, recurses := true, named := ["refrain/value.wants"], apart := false, laid := [("refrain/value.wants", laid_refrain_value_wants)], narrowed := true }
def EvalPlacesUptoSaid : Prop := evalPlacesUptoRow.holds Tryd.pinned (OpenSpec.upto evalPlacesSpec)

/-- 'refrainlaw11.EvalBoth', WHERE WHAT IT READS IS OF BULK AT MOST 1048576: true; the input reads as it did. -/
def evalBothUptoRow : OpenClaim := { program := "ytfkhglkcplnppaadoor", sum := "266279b8874fe9ec595e96fe6b58f2b8d4e8e4709af54df3683b40719c26ea14", func := "refrain/refrainlaw11.EvalBoth", spec := "evalBoth", unfollowed := true, recurses := true, named := ["refrain/value.wants"], apart := false, laid := [("refrain/value.wants", laid_refrain_value_wants)], narrowed := true }
def EvalBothUptoSaid : Prop := evalBothUptoRow.holds Tryd.pinned (OpenSpec.upto evalBothSpec)

/-- 'refrainlaw11.EvalDeep', WHERE WHAT IT READS IS OF BULK AT MOST 1048576: true; the input reads as it did. -/
def evalDeepUptoRow : OpenClaim := { program := "ytfkhglkcplnppaadoor", sum := "266279b8874fe9ec595e96fe6b58f2b8d4e8e4709af54df3683b40719c26ea14", func := "refrain/refrainlaw11.EvalDeep", spec := "evalDeep", unfollowed := true, recurses := true, named := ["refrain/value.wants"], apart := false, laid := [("refrain/value.wants", laid_refrain_value_wants)], narrowed := true }
def EvalDeepUptoSaid : Prop := evalDeepUptoRow.holds Tryd.pinned (OpenSpec.upto evalDeepSpec)

end Rows
end Go.Proofs.YtfkhglkcplnppaaDoor
