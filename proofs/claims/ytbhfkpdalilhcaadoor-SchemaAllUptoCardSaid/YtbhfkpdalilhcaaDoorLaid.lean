/- What the rows' lists give; a world that holds them. Own work of this session. -/
import Derived.Test.YtbhfkpdalilhcaaDoorCards
import Derived.Test.YtbhfkpdalilhcaaDoorTie
import Derived.Test.YtbhfkpdalilhcaaDoorHwO
import Derived.Test.YtbhfkpdalilhcaaDoorT1
import Derived.Deep.DeepHandedRow
import Derived.Lib.LaidTab
set_option linter.unusedVariables false
namespace Go.Hw
open Go Go.ChangeShapes Go.WideShapes Go.ChangeAt Go.RowKit Go.Proofs Go.Proofs.YtbhfkpdalilhcaaDoor

theorem gWords : Tryd.prog.globalNamed "refrain/schema.words" = some 1 := by kernel_rfl
theorem gWordsType : (Tryd.prog.globals[1]?).map (·.type) = some 52 := by kernel_rfl
theorem cells52 : Tryd.prog.cellsOf 52 = 16 := by kernel_rfl
theorem cells9 : Tryd.prog.cellsOf 9 = 1 := by kernel_rfl

/-- A table of texts, as datum. -/
def strData {H : Type} (l : List (List UInt8)) : DataW H := .agg (l.map fun b => .lit (.string b))
theorem cells_of_strs {H : Type} {enc : TypeId × Value → H} {P : Program} {w : World} {base : Nat} {sp : Nat → Bool} {held : Bool} {fuel : Nat} {t e : TypeId} {n : Nat} {cs : List Value} {zs : List (List UInt8)} {p : List MemPlace}
    (ht : P.underlying t = some (.array n e)) (he : P.underlying e = some .string) (hce : P.cellsOf e = 1) (hct : P.cellsOf t = n)
    (h : DataW.trod enc P w base sp held fuel t cs = some (strData zs, p)) : cs = zs.map fun z => Value.string ⟨z.toArray⟩ := by
  cases fuel with
  | zero => simp [DataW.trod] at h
  | succ fuel =>
    simp only [DataW.trod, ht, hce, hct, Nat.mul_one] at h
    split at h
    · rename_i hl
      obtain ⟨xs, hm, hx⟩ := Option.map_eq_some_iff.1 h
      have hxs : xs.map (·.1) = zs.map fun z => (DataW.lit (.string z) : DataW H) := by
        have := congrArg Prod.fst hx
        simpa [strData] using this
      have hxl : xs.length = n := by simpa using Lib.mapM_length hm
      have hzl : zs.length = n := by
        have := congrArg List.length hxs
        simp at this
        omega
      apply List.ext_getElem?
      intro i
      by_cases hi : i < n
      · obtain ⟨b, hb, hf⟩ := Lib.mapM_at hm i i (by simp [hi])
        obtain ⟨z, hc, rfl, _⟩ := DataW.trod_string he hf
        have h1 : cs[i]? = some (.string z) := by
          have := congrArg (·[0]?) hc
          simpa [List.getElem?_take, List.getElem?_drop] using this
        have h2 : (xs.map (·.1))[i]? = some (DataW.lit (.string z.data.toList) : DataW H) := by simp [hb]
        rw [hxs] at h2
        simp only [List.getElem?_map, Option.map_eq_some_iff, DataW.lit.injEq, Lit.string.injEq] at h2
        obtain ⟨z', hz', rfl⟩ := h2
        simp [h1, hz']
      · rw [List.getElem?_eq_none (by omega), List.getElem?_eq_none (by simp; omega)]
    · cases h

def wordsU : List (List UInt8) := wordsL.map fun l => l.map UInt8.ofNat
theorem wordsDatum : (Rows.laid_refrain_schema_words : DataW Unit) = strData wordsU := by kernel_rfl
theorem wordsOf {W : World} {rest : List (String × DataW Unit)} (h : laidMet Tryd.prog (("refrain/schema.words", Rows.laid_refrain_schema_words) :: rest) W) : WordsH W.heap := by
  rw [wordsDatum] at h
  obtain ⟨ps, ⟨g', t', cs, fuel, p, q, hg', ht', hvar, hd, _, _⟩, _⟩ := h
  obtain rfl := Option.some.inj (gWords.symm.trans hg')
  obtain rfl := Option.some.inj (gWordsType.symm.trans ht')
  have e := cells_of_strs Tryd.underlying52 Tryd.underlying9 cells9 cells52 hd
  unfold World.var? at hvar
  rw [gWords] at hvar
  simp only [Option.bind_some] at hvar
  have e2 : cs.toList = words.map Value.string := by
    rw [e]
    unfold words wordsU
    rw [List.map_map, List.map_map]
    rfl
  cases hb : W.heap[1]? with
  | none => rw [hb] at hvar; cases hvar
  | some o =>
    rw [hb] at hvar
    cases o with
    | cells c t fz =>
      have hvar : some c = some cs := hvar
      injection hvar with hvar
      subst hvar
      unfold WordsH
      rw [cells_iff]
      intro j v hj
      rw [← e2] at hj
      have e3 : (Addr.add ⟨1, 0, none⟩ (0 + j)) = ⟨1, j, none⟩ := by rw [add_mk, Nat.zero_add, Nat.zero_add]
      rw [e3]
      unfold cell
      rw [hb]
      have : c.toList[j]? = some v := hj
      simpa using this
    | _ => cases hvar

/-- The cells of a table's datum. -/
def litCells : DataW Unit → Array Value
  | .agg l => (l.map fun d => match d with | .lit (.string b) => Value.string ⟨b.toArray⟩ | _ => Value.bool false).toArray
  | _ => #[]
def layCells (cs : Array Value) : Obj → Obj
  | .cells _ t frozen => .cells cs t frozen
  | o => o
/-- A world for the witness: the settled one, the table laid. -/
noncomputable def laidWorld (os : Os) : World :=
  { World.holding Tryd.prog os ⟨#[], #[], []⟩ with heap := ((World.holding Tryd.prog os ⟨#[], #[], []⟩).heap.modify 1 (layCells (litCells Rows.laid_refrain_schema_words))) }

theorem own : ownKnob Tryd.prog.godebug = none := by kernel_rfl
theorem laid : laidOutB Tryd.prog = true := by kernel_rfl
end Go.Hw
