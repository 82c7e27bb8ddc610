/- Strings: made of bytes, ranged over. Own work of this session. -/
import Derived.Test.YtbhfkpdalilhcaaDoorHwM
import Derived.Laws.BytesArg
set_option linter.unusedVariables false
namespace Go.Hw
open Go

/-- The string of these bytes. -/
def bst (L : List Int) : ByteArray := ⟨(L.map fun n => UInt8.ofNat n.toNat).toArray⟩
/-- An iterator over a string. -/
def iterAt (H : Hp) (a : Addr) (s : ByteArray) (p : Nat) : Prop := ∃ r, a = ⟨r, 0, none⟩ ∧ H[r]? = some (.stringIter s p)

section
variable {P : Program} {w0 : World} {n : Nat} {ρ : Env} {H : Hp} {d : Option Nat} {ty : TypeId} {pos : String} {af : Array Edge} {gd : Option (Nat × Bool)}

theorem run_getObj_iter {w : World} {r : Nat} {s : ByteArray} {p : Nat} (hb : w.heap[r]? = some (.stringIter s p)) : (getObj r).run P w = .ok (.stringIter s p) w := by
  simp [getObj, Sem.run, hb]
theorem run_setObj_iter {w : World} {r : Nat} {s : ByteArray} {p : Nat} (o : Obj) (hb : w.heap[r]? = some (.stringIter s p)) : (setObj r o).run P w = .ok () { w with heap := w.heap.setIfInBounds r o } := by
  simp [setObj, Sem.run, hb]

theorem HVal.convBS {t u e : TypeId} {x : Operand} {s : Sl} {L : List Int} (ht : Ru P (underlying t) (.slice e)) (hu : Ru P (underlying u) .string) (he : Ru P (underlying e) (.int .u8)) (hx : ρ.ev x = Sl.v s) (hr : rds H s.b (L.map (Value.int .u8)) ∧ L.length = s.n) : HVal P ⟨d, .convert t u x, ty, pos, af, gd⟩ ρ H (.string (bst L)) := fun w hw => by
  subst hw
  obtain ⟨hr, hl⟩ := hr
  obtain ⟨b, m, c⟩ := s
  cases b with
  | none =>
    have : L.map (Value.int .u8) = [] := hr
    have : L = [] := by simpa using this
    subst this
    simp [execOp, convert, ht w, hu w, he w, hx, Sl.v, Conv.bytesToString]
    rfl
  | some a =>
    have hr : cells w.heap a (L.map (Value.int .u8)) 0 := hr
    have hl : L.length = m := hl
    have hload : (loadCells a m).run P w = .ok (L.map (Value.int .u8)).toArray w := by
      have := run_loadCells_list (P := P) w a (L.map (Value.int .u8)) (fun j v hj => by have := cells_iff.1 hr j v hj; rwa [Nat.zero_add] at this)
      simpa [hl] using this
    have h2 := run_bytesToString (P := P) w a m c L hload
    simp [execOp, convert, ht w, hu w, he w, hx, Sl.v]
    rw [h2, foldl_push_bytes]
    simp [bst, ByteArray.empty, ByteArray.emptyWithCapacity]
    rfl

theorem HOp.range {t : TypeId} {x : Operand} {s : ByteArray} (ht : Ru P (underlying t) .string) (hx : ρ.ev x = .string s) : HOp P w0 n ⟨d, .range t x, ty, pos, af, gd⟩ ρ H fun v H' => v = .pointer (some ⟨H.size, 0, none⟩) ∧ H' = Array.push H (.stringIter s 0) := by
  intro ac w hs ho hh K' Q' hk
  subst hh
  unfold Oper.wp
  rw [hs.eval]
  have hrun : (execOp ρ.ev ⟨d, .range t x, ty, pos, af, gd⟩).run P w = .ok (.value (.pointer (some ⟨w.heap.size, 0, none⟩))) { w with heap := w.heap.push (.stringIter s 0) } := by
    simp [execOp, Instr.range, ht w, hx, newObj, Sem.run]
  rw [hrun]
  rw [Oper.upon_value]
  exact hk _ _ (ho.of_eq rfl rfl rfl (keepsF_pusho _ _)) ⟨rfl, rfl⟩

theorem HOp.nextT {x : Operand} {a : Addr} {s : ByteArray} {p : Nat} (hx : ρ.ev x = .pointer (some a)) (hi : iterAt H a s p) (hb : decide (p < s.size) = true) :
    HOp P w0 n ⟨d, .next x true, ty, pos, af, gd⟩ ρ H fun v H' => v = .tuple #[.bool true, .int .i64 (p : Int), .int .i32 ((Utf8.decode s p).1 : Int)] ∧ H' = seto H a.block (.stringIter s (p + (Utf8.decode s p).2)) := by
  intro ac w hs ho hh K' Q' hk
  subst hh
  obtain ⟨r, rfl, hr⟩ := hi
  have hb := of_decide_eq_true hb
  unfold Oper.wp
  rw [hs.eval]
  have hrun : (execOp ρ.ev ⟨d, .next x true, ty, pos, af, gd⟩).run P w = .ok (.value (.tuple #[.bool true, .int .i64 (p : Int), .int .i32 ((Utf8.decode s p).1 : Int)])) { w with heap := seto w.heap r (.stringIter s (p + (Utf8.decode s p).2)) } := by
    simp [execOp, Instr.next, hx, run_getObj_iter hr, hb, run_setObj_iter _ hr, goInt, seto]
  rw [hrun]
  rw [Oper.upon_value]
  exact hk _ _ (ho.of_eq rfl rfl rfl (keepsF_seto _ _ _)) ⟨rfl, rfl⟩

theorem HOp.nextF {x : Operand} {a : Addr} {s : ByteArray} {p : Nat} (hx : ρ.ev x = .pointer (some a)) (hi : iterAt H a s p) (hb : decide (p < s.size) = false) :
    HOp P w0 n ⟨d, .next x true, ty, pos, af, gd⟩ ρ H fun v H' => v = .tuple #[.bool false] ∧ H' = H := by
  intro ac w hs ho hh K' Q' hk
  subst hh
  obtain ⟨r, rfl, hr⟩ := hi
  have hb := of_decide_eq_false hb
  unfold Oper.wp
  rw [hs.eval]
  have hrun : (execOp ρ.ev ⟨d, .next x true, ty, pos, af, gd⟩).run P w = .ok (.value (.tuple #[.bool false])) w := by
    simp [execOp, Instr.next, hx, run_getObj_iter hr, hb]
  rw [hrun]
  rw [Oper.upon_value]
  exact hk _ _ (ho.of_eq rfl rfl rfl (KeepsF.refl _)) ⟨rfl, rfl⟩

/-- A call of a function's value: one of those that it may be. -/
theorem HOp.callV {f : Operand} {args : Array Operand} {at_ : Array TypeId} {R : Value → Hp → Prop} (vs : List Value) {fv : Value} (hf : ρ.ev f = fv) (hv : args.toList.map ρ.ev = vs)
    (h : ∃ m : FuncId, fv = .func (.func m) #[] #[] ∧ (∀ args w, (callFunc m args).run P w = .ok (.enter m args) w) ∧ Good P w0 m vs.toArray H R) : HOp P w0 n ⟨d, .call ⟨.value f, args, at_⟩, ty, pos, af, gd⟩ ρ H R := by
  obtain ⟨m, rfl, hc, h⟩ := h
  exact HOp.call' m vs (cap := []) hf (by rw [List.append_nil]; exact hv) hc h

/-- A place of an array that is no variable. -/
theorem HVal.indexA {α : Type} (f : α → Value) (L : List α) {t e : TypeId} {len : Nat} {x i : Operand} {k : IntKind} {j : Int} {y : α} (hu : Ru P (underlying t) (.array len e)) (ha : Ru P (isAgg e) false) (hz : Ru P (sizeOf e) 1)
    (hx : ρ.ev x = .agg (L.map f).toArray) (hi : ρ.ev i = .int k j) (h0 : 0 ≤ j) (h1 : j < (len : Int)) (hv : L[j.toNat]? = some y) : HVal P ⟨d, .index t x i, ty, pos, af, gd⟩ ρ H (f y) := fun w _ => by
  have hp : (part e (L.map f).toArray (j.toNat * 1)).run P w = .ok (f y) w := part1 (P := P) (cs := (L.map f).toArray) (off := j.toNat * 1) (v := f y) ha (by rw [Nat.mul_one]; simp [hv]) w
  rw [Nat.mul_one] at hp
  simp [execOp, Instr.index, asIntOf, hu w, hz w, hx, hi, h0, h1]
  rw [hp]
  rfl

theorem HVal.makeFuncL {fn : FuncId} {caps : Array Operand} {cs : List Value} (hc : caps.toList.map ρ.ev = cs) : HVal P ⟨d, .makeFunc (.func fn) #[] caps, ty, pos, af, gd⟩ ρ H (.func (.func fn) #[] cs.toArray) := by
  refine HVal.makeFunc (by simp) ?_
  apply Array.ext'
  simpa using hc
end
end Go.Hw
