/-
  No cell of these rows narrows 'for every input' (looked for: loops, veiled, ifaces, maps, wideKeys, modest, calm, conditions, laid).
  DERIVED. THE GIVEN ROWS OF THIS SEAT. 5 by the template 'for every input the law returns true; each argument reads behind the call as it read before'; 0 by the template 'total and deterministic' (their statements: YtphnfleopkcmlaaTotals.lean).
  GIVEN WITH THE SEED: the statements are not yours to turn. If you find one false, say at which input.
  Laid BY PROGRAM, IN A SANDBOX (cutbox-rows.mjs): the forced cells as the released guide's own fill.sh prints them over the translation 8f263720f0b7c2c5… (all of the seat's roots in one cut). By AI agents, Wed Nov 11 2026. No macro, syntax, notation, axiom, sorry.
-/
import Derived.Test.YtphnfleopkcmlaaChecked
import GoSem.Claim
import GoSem.ClaimJoined
import GoSem.ClaimMapViews
import Derived.JoinedTies
import Derived.KernelRfl
namespace Go.Proofs.Ytphnfleopkcmlaa
/- THE CELL 'sum', in the pinned program and in every row, IS THE sha256 OF THE DUMP (.gsa) THAT YtphnfleopkcmlaaProg.lean LOADS. Nothing in Lean hashes anything: it is a label: what it is worth is what the hold of that sum in a sandbox is worth. -/
noncomputable def Try.pinned : Pinned := { name := "ytphnfleopkcmlaa", sum := "8f263720f0b7c2c53d1b4a09f1cac734eb8e8308200a01de987e2648277a175b", checked := Try.checked }
namespace Rows
def none {H : Type} : Left H := { results := [], args := [] }

/-- 'refrainlaw13.BufferPlays': WHATEVER THE INPUT: true; the input reads as it did. -/
def bufferPlaysSpec : ChangeSpec := { name := "bufferPlays", fn := fun _ => fun
  | [d1, d2, d3] => { results := [.lit (.bool true)], args := [d1, d2, d3] }
  | _ => none }
def bufferPlaysRow : OpenClaim := { program := "ytphnfleopkcmlaa", sum := "8f263720f0b7c2c53d1b4a09f1cac734eb8e8308200a01de987e2648277a175b", func := "refrain/refrainlaw13.BufferPlays", spec := "bufferPlays", plainKeys := false, apart := false }
def BufferPlaysSaid : Prop := bufferPlaysRow.holds Try.pinned (OpenSpec.ofChange bufferPlaysSpec)

/-- ITS FALSE NEIGHBOUR: 'it returns false'. Refute it at one input. -/
def bufferPlaysWrong : ChangeSpec := { name := "bufferPlays", fn := fun _ => fun
  | [d1, d2, d3] => { results := [.lit (.bool false)], args := [d1, d2, d3] }
  | _ => none }
def BufferPlaysWrongFalsely : Prop := bufferPlaysRow.holds Try.pinned (OpenSpec.ofChange bufferPlaysWrong)

/-- 'refrainlaw13.BufferKeeps': WHATEVER THE INPUT: true; the input reads as it did. -/
def bufferKeepsSpec : ChangeSpec := { name := "bufferKeeps", fn := fun _ => fun
  | [d1, d2] => { results := [.lit (.bool true)], args := [d1, d2] }
  | _ => none }
def bufferKeepsRow : OpenClaim := { program := "ytphnfleopkcmlaa", sum := "8f263720f0b7c2c53d1b4a09f1cac734eb8e8308200a01de987e2648277a175b", func := "refrain/refrainlaw13.BufferKeeps", spec := "bufferKeeps", plainKeys := false, apart := false }
def BufferKeepsSaid : Prop := bufferKeepsRow.holds Try.pinned (OpenSpec.ofChange bufferKeepsSpec)

/-- ITS FALSE NEIGHBOUR: 'it returns false'. Refute it at one input. -/
def bufferKeepsWrong : ChangeSpec := { name := "bufferKeeps", fn := fun _ => fun
  | [d1, d2] => { results := [.lit (.bool false)], args := [d1, d2] }
  | _ => none }
def BufferKeepsWrongFalsely : Prop := bufferKeepsRow.holds Try.pinned (OpenSpec.ofChange bufferKeepsWrong)

/-- 'refrainlaw13.BufferNodes': WHATEVER THE INPUT: true; the input reads as it did. -/
def bufferNodesSpec : ChangeSpec := { name := "bufferNodes", fn := fun _ => fun
  | [d1, d2, d3] => { results := [.lit (.bool true)], args := [d1, d2, d3] }
  | _ => none }
def bufferNodesRow : OpenClaim := { program := "ytphnfleopkcmlaa", sum := "8f263720f0b7c2c53d1b4a09f1cac734eb8e8308200a01de987e2648277a175b", func := "refrain/refrainlaw13.BufferNodes", spec := "bufferNodes", plainKeys := false, apart := false }
def BufferNodesSaid : Prop := bufferNodesRow.holds Try.pinned (OpenSpec.ofChange bufferNodesSpec)

/-- ITS FALSE NEIGHBOUR: 'it returns false'. Refute it at one input. -/
def bufferNodesWrong : ChangeSpec := { name := "bufferNodes", fn := fun _ => fun
  | [d1, d2, d3] => { results := [.lit (.bool false)], args := [d1, d2, d3] }
  | _ => none }
def BufferNodesWrongFalsely : Prop := bufferNodesRow.holds Try.pinned (OpenSpec.ofChange bufferNodesWrong)

/-- 'refrainlaw13.BufferWay': WHATEVER THE INPUT: true; the input reads as it did. -/
def bufferWaySpec : ChangeSpec := { name := "bufferWay", fn := fun _ => fun
  | [d1, d2] => { results := [.lit (.bool true)], args := [d1, d2] }
  | _ => none }
def bufferWayRow : OpenClaim := { program := "ytphnfleopkcmlaa", sum := "8f263720f0b7c2c53d1b4a09f1cac734eb8e8308200a01de987e2648277a175b", func := "refrain/refrainlaw13.BufferWay", spec := "bufferWay", plainKeys := false, apart := false }
def BufferWaySaid : Prop := bufferWayRow.holds Try.pinned (OpenSpec.ofChange bufferWaySpec)

/-- ITS FALSE NEIGHBOUR: 'it returns false'. Refute it at one input. -/
def bufferWayWrong : ChangeSpec := { name := "bufferWay", fn := fun _ => fun
  | [d1, d2] => { results := [.lit (.bool false)], args := [d1, d2] }
  | _ => none }
def BufferWayWrongFalsely : Prop := bufferWayRow.holds Try.pinned (OpenSpec.ofChange bufferWayWrong)

/-- 'refrainlaw13.BufferFresh': WHATEVER THE INPUT: true; the input reads as it did. -/
def bufferFreshSpec : ChangeSpec := { name := "bufferFresh", fn := fun _ => fun
  | [d1, d2] => { results := [.lit (.bool true)], args := [d1, d2] }
  | _ => none }
def bufferFreshRow : OpenClaim := { program := "ytphnfleopkcmlaa", sum := "8f263720f0b7c2c53d1b4a09f1cac734eb8e8308200a01de987e2648277a175b", func := "refrain/refrainlaw13.BufferFresh", spec := "bufferFresh", plainKeys := false, apart := false }
def BufferFreshSaid : Prop := bufferFreshRow.holds Try.pinned (OpenSpec.ofChange bufferFreshSpec)

/-- ITS FALSE NEIGHBOUR: 'it returns false'. Refute it at one input. -/
def bufferFreshWrong : ChangeSpec := { name := "bufferFresh", fn := fun _ => fun
  | [d1, d2] => { results := [.lit (.bool false)], args := [d1, d2] }
  | _ => none }
def BufferFreshWrongFalsely : Prop := bufferFreshRow.holds Try.pinned (OpenSpec.ofChange bufferFreshWrong)

/- THE SECOND FORM. 'bulk': how many values and letters a reading holds, each counted each time it is reached (what is shared counts as often as it is met; a slice's spare places count too). A statement '..UptoSaid' is the law's where the arguments, and the package variables that the reading takes, are together of bulk at most 1048576: NARROWER than '..Said'. Prove '..Said' where nothing that the law and all that it calls make is longer than what came in: it says more and counts as full. Else prove '..UptoSaid'. A law counts once. -/
mutual
def uptoBulk {H : Type} : DataW H → Nat
  | .lit (.string bytes) => bytes.length + 1
  | .lit _ => 1
  | .nil => 1
  | .ptr d => uptoBulk d + 1
  | .slice elems spare => uptoBulkAll elems + uptoBulkAll spare + 1
  | .agg parts => uptoBulkAll parts + 1
  | .iface _ d => uptoBulk d + 1
  | .map entries => uptoBulkEntries entries + 1
  | .held _ => 1
def uptoBulkAll {H : Type} : List (DataW H) → Nat
  | [] => 0
  | d :: r => uptoBulk d + uptoBulkAll r
def uptoBulkEntries {H : Type} : List (Lit × DataW H) → Nat
  | [] => 0
  | x :: r => uptoBulkEntry x + uptoBulkEntries r
def uptoBulkEntry {H : Type} : Lit × DataW H → Nat
  | (.string bytes, d) => bytes.length + uptoBulk d + 1
  | (_, d) => uptoBulk d + 1
 end
def uptoSmall : (H : Type) → List (DataW H) → Bool := fun _ ds => decide (uptoBulkAll ds ≤ 1048576)
def OpenSpec.upto (s : _root_.Go.ChangeSpec) : _root_.Go.OpenSpec := { _root_.Go.OpenSpec.ofChange s with cond := some uptoSmall }

/-- 'refrainlaw13.BufferPlays', WHERE WHAT IT READS IS OF BULK AT MOST 1048576: true; the input reads as it did. -/
def bufferPlaysUptoRow : OpenClaim := { program := "ytphnfleopkcmlaa", sum := "8f263720f0b7c2c53d1b4a09f1cac734eb8e8308200a01de987e2648277a175b", func := "refrain/refrainlaw13.BufferPlays", spec := "bufferPlays", plainKeys := false, apart := false, narrowed := true }
def BufferPlaysUptoSaid : Prop := bufferPlaysUptoRow.holds Try.pinned (OpenSpec.upto bufferPlaysSpec)

/-- 'refrainlaw13.BufferKeeps', WHERE WHAT IT READS IS OF BULK AT MOST 1048576: true; the input reads as it did. -/
def bufferKeepsUptoRow : OpenClaim := { program := "ytphnfleopkcmlaa", sum := "8f263720f0b7c2c53d1b4a09f1cac734eb8e8308200a01de987e2648277a175b", func := "refrain/refrainlaw13.BufferKeeps", spec := "bufferKeeps", plainKeys := false, apart := false, narrowed := true }
def BufferKeepsUptoSaid : Prop := bufferKeepsUptoRow.holds Try.pinned (OpenSpec.upto bufferKeepsSpec)

/-- 'refrainlaw13.BufferNodes', WHERE WHAT IT READS IS OF BULK AT MOST 1048576: true; the input reads as it did. -/
def bufferNodesUptoRow : OpenClaim := { program := "ytphnfleopkcmlaa", sum := "8f263720f0b7c2c53d1b4a09f1cac734eb8e8308200a01de987e2648277a175b", func := "refrain/refrainlaw13.BufferNodes", spec := "bufferNodes", plainKeys := false, apart := false, narrowed := true }
def BufferNodesUptoSaid : Prop := bufferNodesUptoRow.holds Try.pinned (OpenSpec.upto bufferNodesSpec)

/-- 'refrainlaw13.BufferWay', WHERE WHAT IT READS IS OF BULK AT MOST 1048576: true; the input reads as it did. -/
def bufferWayUptoRow : OpenClaim := { program := "ytphnfleopkcmlaa", sum := "8f263720f0b7c2c53d1b4a09f1cac734eb8e8308200a01de987e2648277a175b", func := "refrain/refrainlaw13.BufferWay", spec := "bufferWay", plainKeys := false, apart := false, narrowed := true }
def BufferWayUptoSaid : Prop := bufferWayUptoRow.holds Try.pinned (OpenSpec.upto bufferWaySpec)

/-- 'refrainlaw13.BufferFresh', WHERE WHAT IT READS IS OF BULK AT MOST 1048576: true; the input reads as it did. -/
def bufferFreshUptoRow : OpenClaim := { program := "ytphnfleopkcmlaa", sum := "8f263720f0b7c2c53d1b4a09f1cac734eb8e8308200a01de987e2648277a175b", func := "refrain/refrainlaw13.BufferFresh", spec := "bufferFresh", plainKeys := false, apart := false, narrowed := true }
def BufferFreshUptoSaid : Prop := bufferFreshUptoRow.holds Try.pinned (OpenSpec.upto bufferFreshSpec)

end Rows
end Go.Proofs.Ytphnfleopkcmlaa
