/- Strings: made of bytes, ranged over. Own work of this session. -/
import Derived.Test.YtkdjcmfmflljlaaDoorHwM
import Derived.Laws.BytesArg
set_option linter.unusedVariables false
namespace Go.Hw
open Go

section
variable {P : Program} {w0 : World} {n : Nat} {ρ : Env} {H : Hp} {d : Option Nat} {ty : TypeId} {pos : String} {af : Array Edge} {gd : Option (Nat × Bool)}

theorem HOp.range {t : TypeId} {x : Operand} {s : ByteArray} (ht : Ru P (underlying t) .string) (hx : ρ.ev x = .string s) : HOp P w0 n ⟨d, .range t x, ty, pos, af, gd⟩ ρ H fun v H' => v = .pointer (some ⟨H.size, 0, none⟩) ∧ H' = Array.push H (.stringIter s 0) := by
  intro ac w hs ho hh K' Q' hk
  subst hh
  unfold Oper.wp
  rw [hs.eval]
  have hrun : (execOp ρ.ev ⟨d, .range t x, ty, pos, af, gd⟩).run P w = .ok (.value (.pointer (some ⟨w.heap.size, 0, none⟩))) { w with heap := w.heap.push (.stringIter s 0) } := by
    simp [execOp, Instr.range, ht w, hx, newObj, Sem.run]
  rw [hrun]
  rw [Oper.upon_value]
  exact hk _ _ (ho.of_eq rfl rfl rfl (keepsF_pusho _ _)) ⟨rfl, rfl⟩

theorem HVal.makeFuncL {fn : FuncId} {caps : Array Operand} {cs : List Value} (hc : caps.toList.map ρ.ev = cs) : HVal P ⟨d, .makeFunc (.func fn) #[] caps, ty, pos, af, gd⟩ ρ H (.func (.func fn) #[] cs.toArray) := by
  refine HVal.makeFunc (by simp) ?_
  apply Array.ext'
  simpa using hc
end
end Go.Hw
