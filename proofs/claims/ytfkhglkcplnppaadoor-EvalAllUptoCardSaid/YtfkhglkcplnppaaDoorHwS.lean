/- Strings: made of bytes, ranged over. Own work of this session. -/
import Derived.Test.YtfkhglkcplnppaaDoorHwM
import Derived.Laws.BytesArg
set_option linter.unusedVariables false
namespace Go.Hw
open Go

section
variable {P : Program} {w0 : World} {n : Nat} {ρ : Env} {H : Hp} {d : Option Nat} {ty : TypeId} {pos : String} {af : Array Edge} {gd : Option (Nat × Bool)}

theorem HOp.range {t : TypeId} {x : Operand} {s : ByteArray} (ht : Ru P (underlying t) .string) (hx : ρ.ev x = .string s) : HOp P w0 n ⟨d, .range t x, ty, pos, af, gd⟩ ρ H fun v H' => v = .pointer (some ⟨H.size, 0, none⟩) ∧ H' = Array.push H (.stringIter s 0) := by
 intro ac w hs ho hh K' Q' hk
 subst hh
 unfold Oper.wp
 rw [hs.eval]
 have hrun : (execOp ρ.ev ⟨d, .range t x, ty, pos, af, gd⟩).run P w = .ok (.value (.pointer (some ⟨w.heap.size, 0, none⟩))) { w with heap := w.heap.push (.stringIter s 0) } := by
  simp [execOp, Instr.range, ht w, hx, newObj, Sem.run]
 rw [hrun]
 rw [Oper.upon_value]
 exact hk _ _ (ho.of_eq rfl rfl rfl (keepsF_pusho _ _)) ⟨rfl, rfl⟩

theorem HOp.callV {f : Operand} {args : Array Operand} {at_ : Array TypeId} {R : Value → Hp → Prop} (vs : List Value) {fv : Value} (hf : ρ.ev f = fv) (hv : args.toList.map ρ.ev = vs)
  (h : ∃ m : FuncId, fv = .func (.func m) #[] #[] ∧ (∀ args w, (callFunc m args).run P w = .ok (.enter m args) w) ∧ Good P w0 m vs.toArray H R) : HOp P w0 n ⟨d, .call ⟨.value f, args, at_⟩, ty, pos, af, gd⟩ ρ H R := by
 obtain ⟨m, rfl, hc, h⟩ := h
 exact HOp.call' m vs (cap := []) hf (by rw [List.append_nil]; exact hv) hc h

theorem HVal.indexA {α : Type} (f : α → Value) (L : List α) {t e : TypeId} {len : Nat} {x i : Operand} {k : IntKind} {j : Int} {y : α} (hu : Ru P (underlying t) (.array len e)) (ha : Ru P (isAgg e) false) (hz : Ru P (sizeOf e) 1)
  (hx : ρ.ev x = .agg (L.map f).toArray) (hi : ρ.ev i = .int k j) (h0 : 0 ≤ j) (h1 : j < (len : Int)) (hv : L[j.toNat]? = some y) : HVal P ⟨d, .index t x i, ty, pos, af, gd⟩ ρ H (f y) := fun w _ => by
 have hp : (part e (L.map f).toArray (j.toNat * 1)).run P w = .ok (f y) w := part1 (P := P) (cs := (L.map f).toArray) (off := j.toNat * 1) (v := f y) ha (by rw [Nat.mul_one]; simp [hv]) w
 rw [Nat.mul_one] at hp
 simp [execOp, Instr.index, asIntOf, hu w, hz w, hx, hi, h0, h1]
 rw [hp]
 rfl

theorem HVal.makeFuncL {fn : FuncId} {caps : Array Operand} {cs : List Value} (hc : caps.toList.map ρ.ev = cs) : HVal P ⟨d, .makeFunc (.func fn) #[] caps, ty, pos, af, gd⟩ ρ H (.func (.func fn) #[] cs.toArray) := by
 refine HVal.makeFunc (by simp) ?_
 apply Array.ext'
 simpa using hc
end
end Go.Hw
