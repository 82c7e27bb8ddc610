/- SchemaNames' argument, opened. Own work of this session. -/
import Derived.Test.YtbhfkpdalilhcaaDoorLaid
import Derived.Test.YtbhfkpdalilhcaaDoorT13
import Derived.ChangeMaps5
set_option linter.unusedVariables false
namespace Go.Hw
open Go Go.ChangeShapes Go.WideShapes Go.RowKit Go.Proofs.YtbhfkpdalilhcaaDoor Go.Proofs

set_option maxRecDepth 100000 in
theorem open_text3 {H : Type} {enc : TypeId × Value → H} {W : World} {base : Nat} {v : Value} {d : DataW H} {p : List MemPlace} (hval : Value.okWide Tryd.prog W .any base 9 v) (h : DataW.Trod enc Tryd.prog W 0 (fun _ => true) true 9 v d p) :
    ∃ s : ByteArray, v = .string s ∧ s.size + 1 ≤ Rows.uptoBulk d := by
  obtain ⟨s, rfl, rfl, _⟩ := Go.ChangeMaps.open_string Tryd.underlying9 hval h
  exact ⟨s, rfl, Nat.le_refl _⟩
end Go.Hw
