/- EvalBoth: its arguments, opened. Own work of this session. -/
import Derived.Test.YtfkhglkcplnppaaDoorSums
import Derived.Test.YtfkhglkcplnppaaDoorE20
set_option linter.unusedVariables false
namespace Go.Hw
open Go Go.ChangeShapes Go.WideShapes Go.RowKit Go.Proofs.YtfkhglkcplnppaaDoor Go.Proofs

theorem size4 : Tryd.prog.cellsOf 4 = 1 := by kernel_rfl
theorem size5 : Tryd.prog.cellsOf 5 = 1 := by kernel_rfl
theorem oBt : Opn Tryd.prog 4 btF.f (fun _ _ => True) (fun _ => 1) := (Opn.bool Tryd.underlying4).map id (fun _ => rfl) (fun _ _ _ => trivial) (fun _ => Nat.le_refl _)
theorem oU8 : Opn Tryd.prog 5 u8F.f (fun _ x => 0 ≤ x ∧ x ≤ 255) (fun _ => 1) := (Opn.int Tryd.underlying5).map id (fun _ => rfl) (fun _ x h => by
  simp [Lit.wf, IntKind.min, IntKind.max, IntKind.bits, IntKind.signed] at h
  exact h) (fun _ => Nat.le_refl _)
end Go.Hw
