/- What the rows' lists give, of both tables; a world that holds them. Own work of this session. -/
import Derived.Test.YtbhfkpdalilhcaaDoorLaid
import Derived.Test.YtbhfkpdalilhcaaDoorT8
set_option linter.unusedVariables false
namespace Go.Hw
open Go Go.ChangeShapes Go.WideShapes Go.ChangeAt Go.RowKit Go.Proofs Go.Proofs.YtbhfkpdalilhcaaDoor

theorem gKinds : Tryd.prog.globalNamed "refrain/schema.kinds" = some 0 := by kernel_rfl
theorem gKindsType : (Tryd.prog.globals[0]?).map (·.type) = some 49 := by kernel_rfl
theorem cells49 : Tryd.prog.cellsOf 49 = 4 := by kernel_rfl
def kindsU : List (List UInt8) := [[], [73, 78, 84], [83, 84, 82], [66, 79, 79, 76]]
theorem kindsDatum : (Rows.laid_refrain_schema_kinds : DataW Unit) = strData kindsU := by kernel_rfl

theorem tabsOf {W : World} {rest : List (String × DataW Unit)} (h : laidMet Tryd.prog (("refrain/schema.words", Rows.laid_refrain_schema_words) :: ("refrain/schema.kinds", Rows.laid_refrain_schema_kinds) :: rest) W) : Tabs W.heap := by
  have hw := wordsOf h
  refine ⟨hw, ?_⟩
  rw [kindsDatum] at h
  obtain ⟨ps, ⟨_, _, _, _, _, _, _, _, _, _, ⟨g', t', cs, fuel, p, q, hg', ht', hvar, hd, _, _⟩, _⟩, _⟩ := h
  obtain rfl := Option.some.inj (gKinds.symm.trans hg')
  obtain rfl := Option.some.inj (gKindsType.symm.trans ht')
  have e := cells_of_strs Tryd.underlying49 Tryd.underlying9 cells9 cells49 hd
  unfold World.var? at hvar
  rw [gKinds] at hvar
  simp only [Option.bind_some] at hvar
  have e2 : cs.toList = [.string E, .string S_INT, .string S_STR, .string S_BOOL] := by
    rw [e]
    rfl
  cases hb : W.heap[0]? with
  | none => rw [hb] at hvar; cases hvar
  | some o =>
    rw [hb] at hvar
    cases o with
    | cells c t fz =>
      have hvar : some c = some cs := hvar
      injection hvar with hvar
      subst hvar
      unfold KindsH
      rw [cells_iff]
      intro j v hj
      rw [← e2] at hj
      have e3 : (Addr.add ⟨0, 0, none⟩ (0 + j)) = ⟨0, j, none⟩ := by rw [add_mk, Nat.zero_add, Nat.zero_add]
      rw [e3]
      unfold cell
      rw [hb]
      have : c.toList[j]? = some v := hj
      simpa using this
    | _ => cases hvar

/-- A world for the witness: both tables laid. -/
noncomputable def laidWorld2 (os : Os) : World :=
  { laidWorld os with heap := ((laidWorld os).heap.modify 0 (layCells (litCells Rows.laid_refrain_schema_kinds))) }
end Go.Hw
