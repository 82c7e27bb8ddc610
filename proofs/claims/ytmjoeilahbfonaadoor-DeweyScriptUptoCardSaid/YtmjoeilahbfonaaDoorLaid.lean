/- What the rows' lists give; a world that holds them. Own work of this session. -/
import Derived.Test.YtmjoeilahbfonaaDoorCards
import Derived.Test.YtmjoeilahbfonaaDoorTie
import Derived.Test.YtmjoeilahbfonaaDoorHwO
import Derived.Test.YtmjoeilahbfonaaDoorWLib
import Derived.Deep.DeepHandedRow
import Derived.Lib.LaidTab
set_option linter.unusedVariables false
namespace Go.Hw
open Go Go.ChangeShapes Go.WideShapes Go.ChangeAt Go.RowKit Go.Proofs Go.Proofs.YtmjoeilahbfonaaDoor

theorem gPowType : (Tryd.prog.globals[0]?).map (·.type) = some 76 := by kernel_rfl
theorem cells76 : Tryd.prog.cellsOf 76 = 20 := by kernel_rfl
theorem cells64 : Tryd.prog.cellsOf 64 = 1 := by kernel_rfl
theorem powDatum : (Rows.laid_internal_strconv_uint64pow10 : DataW Unit) = Lib.tabData .u64 Lib.pow10Tab := by kernel_rfl

theorem tabOf {W : World} {rest : List (String × DataW Unit)} (h : laidMet Tryd.prog (("math/bits.deBruijn32tab", Rows.laid_math_bits_deBruijn32tab) :: ("math/bits.deBruijn64tab", Rows.laid_math_bits_deBruijn64tab) :: ("internal/strconv.uint64pow10", Rows.laid_internal_strconv_uint64pow10) :: rest) W) : TabH W.heap ∧ 0 < W.heap.size := by
  rw [powDatum] at h
  obtain ⟨ps, ⟨_, _, _, _, _, _, _, _, _, _, ⟨_, _, _, _, _, _, _, _, _, _, ⟨g', t', cs, fuel, p, q, hg', ht', hvar, hd, _, _⟩, _⟩, _⟩, _⟩ := h
  obtain rfl := Option.some.inj (gPow.symm.trans hg')
  obtain rfl := Option.some.inj (gPowType.symm.trans ht')
  have e := Lib.cells_of_tab Tryd.underlying76 Tryd.underlying64 cells64 cells76 hd
  have htab : Lib.TabIs Tryd.prog W "internal/strconv.uint64pow10" .u64 Lib.pow10Tab := by
    unfold Lib.TabIs
    rw [hvar, ← e]
  refine ⟨fun w hw => ?_, ?_⟩
  · unfold Lib.TabIs World.var? at *
    rw [hw]
    exact htab
  · unfold Lib.TabIs World.var? at htab
    rw [gPow] at htab
    simp only [Option.bind_some] at htab
    by_cases h0 : 0 < W.heap.size
    · exact h0
    · rw [Array.getElem?_eq_none (by omega)] at htab
      cases htab

/-- The cells of a table's datum. -/
def litCells : DataW Unit → Array Value
  | .agg l => (l.map fun d => match d with | .lit (.int k n) => Value.int k n | _ => Value.bool false).toArray
  | _ => #[]
def layCells (cs : Array Value) : Obj → Obj
  | .cells _ t frozen => .cells cs t frozen
  | o => o

/-- A world for the witness: the settled one, the tables laid. -/
noncomputable def laidWorld (os : Os) : World :=
  { World.holding Tryd.prog os ⟨#[], #[], []⟩ with heap := (((World.holding Tryd.prog os ⟨#[], #[], []⟩).heap.modify 0 (layCells (litCells Rows.laid_internal_strconv_uint64pow10))).modify 2 (layCells (litCells Rows.laid_math_bits_deBruijn32tab))).modify 3 (layCells (litCells Rows.laid_math_bits_deBruijn64tab)) }

theorem own : ownKnob Tryd.prog.godebug = none := by kernel_rfl
theorem laid : laidOutB Tryd.prog = true := by kernel_rfl
end Go.Hw
