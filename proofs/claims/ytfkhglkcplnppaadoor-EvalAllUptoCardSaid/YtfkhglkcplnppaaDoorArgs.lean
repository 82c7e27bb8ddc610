/- The arguments of the statements of this seat, opened. Own work of this session. -/
import Derived.Test.YtfkhglkcplnppaaDoorLaid
import Derived.ChangeMaps5
set_option linter.unusedVariables false
namespace Go.Hw
open Go Go.ChangeShapes Go.WideShapes Go.RowKit Go.Proofs.YtfkhglkcplnppaaDoor Go.Proofs

theorem wf64 {i : Int} (h : (Lit.int .i64 i).wf = true) : -9223372036854775808 ≤ i ∧ i ≤ 9223372036854775807 := by
 simp [Lit.wf, IntKind.min, IntKind.max, IntKind.bits, IntKind.signed] at h
 exact h
end Go.Hw
