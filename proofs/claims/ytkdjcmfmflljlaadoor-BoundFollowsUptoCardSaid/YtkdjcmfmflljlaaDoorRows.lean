/-
  NARROWER THAN 'FOR EVERY INPUT', by the rows' own cells (each row's printed sentence says how): BoundLeast: laid · BoundHolds: laid · BoundFollows: laid.
  DERIVED. THE GIVEN ROWS OF THIS SEAT. 3 by the template 'for every input the law returns true; each argument reads behind the call as it read before'; 0 by the template 'total and deterministic' (their statements: YtkdjcmfmflljlaaDoorTotals.lean).
  GIVEN WITH THE SEED: the statements are not yours to turn. If you find one false, say at which input.
  Laid BY PROGRAM, IN A SANDBOX (cutbox-rows.mjs): the forced cells as the released guide's own fill.sh prints them over the translation acf8e02c51af93bc… (all of the seat's roots in one cut). By AI agents, Wed Nov 11 2026. No macro, syntax, notation, axiom, sorry.
-/
import Derived.Test.YtkdjcmfmflljlaaDoorChecked
import GoSem.Claim
import GoSem.ClaimJoined
import GoSem.ClaimMapViews
import Derived.JoinedTies
import Derived.KernelRfl
namespace Go.Proofs.YtkdjcmfmflljlaaDoor
/- THE CELL 'sum', in the pinned program and in every row, IS THE sha256 OF THE DUMP (.gsa) THAT YtkdjcmfmflljlaaDoorProg.lean LOADS. Nothing in Lean hashes anything: it is a label: what it is worth is what the hold of that sum in a sandbox is worth. -/
noncomputable def Tryd.pinned : Pinned := { name := "ytkdjcmfmflljlaadoor", sum := "acf8e02c51af93bc4814989daa768e961b870d98d4296f25c1c0656c1d0a8e91", checked := Tryd.checked }
namespace Rows
def none {H : Type} : Left H := { results := [], args := [] }

/- WHAT THE LISTED PACKAGE-LEVEL VARIABLES READ AS WHEN THE CALL BEGINS. Each datum BY PROGRAM (the guide's laid-datum.mjs) off the statement by which the dump's own 'gosem.cut.vars' lays the variable. In a bare row this is a premise. The card (YtkdjcmfmflljlaaDoorCards.lean) ties it to the program's text. -/
def laid_refrain_value_wants {H : Type} : DataW H := .agg [.lit (.int .i64 0), .lit (.int .i64 1), .lit (.int .i64 2), .lit (.int .i64 1), .lit (.int .i64 1), .lit (.int .i64 1), .lit (.int .i64 3), .lit (.int .i64 3), .lit (.int .i64 4), .lit (.int .i64 4), .lit (.int .i64 4), .lit (.int .i64 4), .lit (.int .i64 2), .lit (.int .i64 2)]

/-- 'refrainlaw26.BoundLeast': WHATEVER THE INPUT: true; the input reads as it did. -/
def boundLeastSpec : ChangeSpec := { name := "boundLeast", fn := fun _ => fun
  | [d1, d2, d3] => { results := [.lit (.bool true)], args := [d1, d2, d3] }
  | _ => none }
def boundLeastRow : OpenClaim := { program := "ytkdjcmfmflljlaadoor", sum := "acf8e02c51af93bc4814989daa768e961b870d98d4296f25c1c0656c1d0a8e91", func := "refrain/refrainlaw26.BoundLeast", spec := "boundLeast", unfollowed := true, recurses := true, named := ["refrain/value.wants"], apart := false, laid := [("refrain/value.wants", laid_refrain_value_wants)] }
def BoundLeastSaid : Prop := boundLeastRow.holds Tryd.pinned (OpenSpec.ofChange boundLeastSpec)

/-- ITS FALSE NEIGHBOUR: 'it returns false'. Refute it at one input. -/
def boundLeastWrong : ChangeSpec := { name := "boundLeast", fn := fun _ => fun
  | [d1, d2, d3] => { results := [.lit (.bool false)], args := [d1, d2, d3] }
  | _ => none }
def BoundLeastWrongFalsely : Prop := boundLeastRow.holds Tryd.pinned (OpenSpec.ofChange boundLeastWrong)

/-- 'refrainlaw26.BoundHolds': WHATEVER THE INPUT: true; the input reads as it did. -/
def boundHoldsSpec : ChangeSpec := { name := "boundHolds", fn := fun _ => fun
  | [d1, d2] => { results := [.lit (.bool true)], args := [d1, d2] }
  | _ => none }
def boundHoldsRow : OpenClaim := { program := "ytkdjcmfmflljlaadoor", sum := "acf8e02c51af93bc4814989daa768e961b870d98d4296f25c1c0656c1d0a8e91", func := "refrain/refrainlaw26.BoundHolds", spec := "boundHolds", unfollowed := true, recurses := true, named := ["refrain/value.wants"], apart := false, laid := [("refrain/value.wants", laid_refrain_value_wants)] }
def BoundHoldsSaid : Prop := boundHoldsRow.holds Tryd.pinned (OpenSpec.ofChange boundHoldsSpec)

/-- ITS FALSE NEIGHBOUR: 'it returns false'. Refute it at one input. -/
def boundHoldsWrong : ChangeSpec := { name := "boundHolds", fn := fun _ => fun
  | [d1, d2] => { results := [.lit (.bool false)], args := [d1, d2] }
  | _ => none }
def BoundHoldsWrongFalsely : Prop := boundHoldsRow.holds Tryd.pinned (OpenSpec.ofChange boundHoldsWrong)

/-- 'refrainlaw26.BoundFollows': WHATEVER THE INPUT: true; the input reads as it did. -/
def boundFollowsSpec : ChangeSpec := { name := "boundFollows", fn := fun _ => fun
  | [d1, d2, d3] => { results := [.lit (.bool true)], args := [d1, d2, d3] }
  | _ => none }
def boundFollowsRow : OpenClaim := { program := "ytkdjcmfmflljlaadoor", sum := "acf8e02c51af93bc4814989daa768e961b870d98d4296f25c1c0656c1d0a8e91", func := "refrain/refrainlaw26.BoundFollows", spec := "boundFollows", unfollowed := true, recurses := true, named := ["refrain/value.wants"], apart := false, laid := [("refrain/value.wants", laid_refrain_value_wants)] }
def BoundFollowsSaid : Prop := boundFollowsRow.holds Tryd.pinned (OpenSpec.ofChange boundFollowsSpec)

/-- ITS FALSE NEIGHBOUR: 'it returns false'. Refute it at one input. -/
def boundFollowsWrong : ChangeSpec := { name := "boundFollows", fn := fun _ => fun
  | [d1, d2, d3] => { results := [.lit (.bool false)], args := [d1, d2, d3] }
  | _ => none }
def BoundFollowsWrongFalsely : Prop := boundFollowsRow.holds Tryd.pinned (OpenSpec.ofChange boundFollowsWrong)

/- THE SECOND FORM. 'bulk': how many values and letters a reading holds, each counted each time it is reached (what is shared counts as often as it is met; a slice's spare places count too). A statement '..UptoSaid' is the law's where the arguments, and the package variables that the reading takes, are together of bulk at most 1048576: NARROWER than '..Said'. Prove '..Said' where nothing that the law and all that it calls make is longer than what came in: it says more and counts as full. Else prove '..UptoSaid'. A law counts once. -/
mutual
def uptoBulk {H : Type} : DataW H → Nat
  | .lit (.string bytes) => bytes.length + 1
  | .lit _ => 1
  | .nil => 1
  | .ptr d => uptoBulk d + 1
  | .slice elems spare => uptoBulkAll elems + uptoBulkAll spare + 1
  | .agg parts => uptoBulkAll parts + 1
  | .iface _ d => uptoBulk d + 1
  | .map entries => uptoBulkEntries entries + 1
  | .held _ => 1
def uptoBulkAll {H : Type} : List (DataW H) → Nat
  | [] => 0
  | d :: r => uptoBulk d + uptoBulkAll r
def uptoBulkEntries {H : Type} : List (Lit × DataW H) → Nat
  | [] => 0
  | x :: r => uptoBulkEntry x + uptoBulkEntries r
def uptoBulkEntry {H : Type} : Lit × DataW H → Nat
  | (.string bytes, d) => bytes.length + uptoBulk d + 1
  | (_, d) => uptoBulk d + 1
 end
def uptoSmall : (H : Type) → List (DataW H) → Bool := fun _ ds => decide (uptoBulkAll ds ≤ 1048576)
def OpenSpec.upto (s : _root_.Go.ChangeSpec) : _root_.Go.OpenSpec := { _root_.Go.OpenSpec.ofChange s with cond := some uptoSmall }

/-- 'refrainlaw26.BoundLeast', WHERE WHAT IT READS IS OF BULK AT MOST 1048576: true; the input reads as it did. -/
def boundLeastUptoRow : OpenClaim := { program := "ytkdjcmfmflljlaadoor", sum := "acf8e02c51af93bc4814989daa768e961b870d98d4296f25c1c0656c1d0a8e91", func := "refrain/refrainlaw26.BoundLeast", spec := "boundLeast", unfollowed := true, recurses := true, named := ["refrain/value.wants"], apart := false, laid := [("refrain/value.wants", laid_refrain_value_wants)], narrowed := true }
def BoundLeastUptoSaid : Prop := boundLeastUptoRow.holds Tryd.pinned (OpenSpec.upto boundLeastSpec)

/-- 'refrainlaw26.BoundHolds', WHERE WHAT IT READS IS OF BULK AT MOST 1048576: true; the input reads as it did. -/
def boundHoldsUptoRow : OpenClaim := { program := "ytkdjcmfmflljlaadoor", sum := "acf8e02c51af93bc4814989daa768e961b870d98d4296f25c1c0656c1d0a8e91", func := "refrain/refrainlaw26.BoundHolds", spec := "boundHolds", unfollowed := true, recurses := true, named := ["refrain/value.wants"], apart := false, laid := [("refrain/value.wants", laid_refrain_value_wants)], narrowed := true }
def BoundHoldsUptoSaid : Prop := boundHoldsUptoRow.holds Tryd.pinned (OpenSpec.upto boundHoldsSpec)

/-- 'refrainlaw26.BoundFollows', WHERE WHAT IT READS IS OF BULK AT MOST 1048576: true; the input reads as it did. -/
def boundFollowsUptoRow : OpenClaim := { program := "ytkdjcmfmflljlaadoor", sum := "acf8e02c51af93bc4814989daa768e961b870d98d4296f25c1c0656c1d0a8e91", func := "refrain/refrainlaw26.BoundFollows", spec := "boundFollows", unfollowed := true, recurses := true, named := ["refrain/value.wants"], apart := false, laid := [("refrain/value.wants", laid_refrain_value_wants)], narrowed := true }
def BoundFollowsUptoSaid : Prop := boundFollowsUptoRow.holds Tryd.pinned (OpenSpec.upto boundFollowsSpec)

end Rows
end Go.Proofs.YtkdjcmfmflljlaaDoor
