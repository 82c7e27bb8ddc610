/- What the rows' list gives; a world that holds it. Own work of this session. -/
import Derived.Test.YtfkhglkcplnppaaDoorCards
import Derived.Test.YtfkhglkcplnppaaDoorTie
import Derived.Test.YtfkhglkcplnppaaDoorHwO
import Derived.Test.YtfkhglkcplnppaaDoorE1
import Derived.Deep.DeepHandedRow
import Derived.Lib.LaidTab
set_option linter.unusedVariables false
namespace Go.Hw
open Go Go.ChangeShapes Go.WideShapes Go.ChangeAt Go.RowKit Go.Proofs Go.Proofs.YtfkhglkcplnppaaDoor

theorem gWants : Tryd.prog.globalNamed "refrain/value.wants" = some 0 := by kernel_rfl
def intData {H : Type} (l : List Int) : DataW H := .agg (l.map fun b => .lit (.int .i64 b))
theorem cells_of_ints {H : Type} {enc : TypeId × Value → H} {P : Program} {w : World} {base : Nat} {sp : Nat → Bool} {held : Bool} {fuel : Nat} {t e : TypeId} {n : Nat} {cs : List Value} {zs : List Int} {p : List MemPlace}
  (ht : P.underlying t = some (.array n e)) (he : P.underlying e = some (.int .i64)) (hce : P.cellsOf e = 1) (hct : P.cellsOf t = n)
  (h : DataW.trod enc P w base sp held fuel t cs = some (intData zs, p)) : cs = zs.map fun z => Value.int .i64 z := by
 cases fuel with
 | zero => simp [DataW.trod] at h
 | succ fuel =>
  simp only [DataW.trod, ht, hce, hct, Nat.mul_one] at h
  split at h
  ·rename_i hl
   obtain ⟨xs, hm, hx⟩ := Option.map_eq_some_iff.1 h
   have hxs : xs.map (·.1) = zs.map fun z => (DataW.lit (.int .i64 z) : DataW H) := by
    have := congrArg Prod.fst hx
    simpa [intData] using this
   have hxl : xs.length = n := by simpa using Lib.mapM_length hm
   have hzl : zs.length = n := by
    have := congrArg List.length hxs
    simp at this
    omega
   apply List.ext_getElem?
   intro i
   by_cases hi : i < n
   ·obtain ⟨b, hb, hf⟩ := Lib.mapM_at hm i i (by simp [hi])
    obtain ⟨z, hc, rfl, _⟩ := DataW.trod_int he hf
    have h1 : cs[i]? = some (.int .i64 z) := by
     have := congrArg (·[0]?) hc
     simpa [List.getElem?_take, List.getElem?_drop] using this
    have h2 : (xs.map (·.1))[i]? = some (DataW.lit (.int .i64 z) : DataW H) := by simp [hb]
    rw [hxs] at h2
    simp only [List.getElem?_map, Option.map_eq_some_iff, DataW.lit.injEq, Lit.int.injEq] at h2
    obtain ⟨z', hz', _, rfl⟩ := h2
    simp [h1, hz']
   ·rw [List.getElem?_eq_none (by omega), List.getElem?_eq_none (by simp; omega)]
  ·cases h
theorem wantsDatum : (Rows.laid_refrain_value_wants : DataW Unit) = intData wantsL := by kernel_rfl
theorem gWantsType : (Tryd.prog.globals[0]?).map (·.type) = some 129 := by kernel_rfl
theorem cells129 : Tryd.prog.cellsOf 129 = 14 := by kernel_rfl
theorem cells3 : Tryd.prog.cellsOf 3 = 1 := by kernel_rfl
theorem wantsOf {W : World} {rest : List (String × DataW Unit)} (h : laidMet Tryd.prog (("refrain/value.wants", Rows.laid_refrain_value_wants) :: rest) W) : WantsH W.heap := by
 rw [wantsDatum] at h
 obtain ⟨ps, ⟨g', t', cs, fuel, p, q, hg', ht', hvar, hd, _, _⟩, _⟩ := h
 obtain rfl := Option.some.inj (gWants.symm.trans hg')
 obtain rfl := Option.some.inj (gWantsType.symm.trans ht')
 have e2 := cells_of_ints Tryd.underlying129 Tryd.underlying3 cells3 cells129 hd
 unfold World.var? at hvar
 rw [gWants] at hvar
 simp only [Option.bind_some] at hvar
 cases hb : W.heap[0]? with
 | none => rw [hb] at hvar; cases hvar
 | some o =>
  rw [hb] at hvar
  cases o with
  | cells c t fz =>
   have hvar : some c = some cs := hvar
   injection hvar with hvar
   subst hvar
   unfold WantsH
   rw [cells_iff]
   intro j v hj
   rw [← e2] at hj
   have e3 : (Addr.add ⟨0, 0, none⟩ (0 + j)) = ⟨0, j, none⟩ := by rw [add_mk, Nat.zero_add, Nat.zero_add]
   rw [e3]
   unfold cell
   rw [hb]
   have : c.toList[j]? = some v := hj
   simpa using this
  | _ => cases hvar

def litCells : DataW Unit → Array Value
 | .agg l => (l.map fun d => match d with | .lit (.int k i) => Value.int k i | _ => Value.bool false).toArray
 | _ => #[]
def layCells (cs : Array Value) : Obj → Obj
 | .cells _ t frozen => .cells cs t frozen
 | o => o
noncomputable def laidWorld (os : Os) : World :=
 { World.holding Tryd.prog os ⟨#[], #[], []⟩ with heap := ((World.holding Tryd.prog os ⟨#[], #[], []⟩).heap.modify 0 (layCells (litCells Rows.laid_refrain_value_wants))) }

theorem own : ownKnob Tryd.prog.godebug = none := by kernel_rfl
theorem laid : laidOutB Tryd.prog = true := by kernel_rfl
end Go.Hw
