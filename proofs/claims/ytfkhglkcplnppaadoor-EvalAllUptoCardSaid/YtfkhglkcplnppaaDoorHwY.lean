/- A range over a function: the call of 'yield', as an operation of a region. Own work of this session. -/
import Derived.Test.YtfkhglkcplnppaaDoorHwT
import Derived.RangeFuncNested
import Derived.RangeFuncBound
import Derived.RangeFuncCalls
import Derived.RangeFuncLeaves
set_option linter.unusedVariables false
namespace Go.Hw
open Go

def YieldG (P : Program) (fv : Value) (vs : List Value) (H : Hp) (Q : Bool → Hp → Prop) : Prop :=
 ∃ l, fv = .func (.yield l) #[] #[] ∧ ∀ w : World, w.heap = H → YieldAt Fence.wide 0 P l vs.toArray w fun e W' => ∃ b, e = .returned (.bool b) ∧ Ok w W' ∧ Q b W'.heap

theorem RoundIn.wide0 {m m' : Nat} {P : Program} {l : Nat} {f : FuncId} {tmps : Array Value} {assign body : Code} {w : World} {R : Ending → World → Prop}
  (h : RoundIn Fence.wide m P l f tmps assign body w R) : RoundIn Fence.wide m' P l f tmps assign body w R := ⟨h.1, fun c cs _ => h.2 c cs (room_wide _)⟩

theorem Ok.tr {w0 w w' : World} (h : Ok w0 w) (k : Ok w w') : Ok w0 w' := h.of_eq k.tape k.os k.output k.kf

def HListI (P : Program) (w0 : World) (n : Nat) (ops : Array Oper) (Q : Post) (l : List Oper) (ρ : Env) (H : Hp) : Prop :=
 ∀ a w, Sim n a ρ → Ok w0 w → w.heap = H → wpListIn Fence.wide 0 P ops (lift w0 n Q) l a w

section
variable {P : Program} {w0 : World} {n : Nat} {ops : Array Oper} {Q : Post} {rest : List Oper} {ρ : Env} {H : Hp} {d : Nat} {op : Op} {ty : TypeId} {pos : String} {af : Array Edge}

theorem HW.regionI {id : Nat} (h : HListI P w0 n ops Q ops.toList ρ H) : HW P w0 n (.region id ops false) Q ρ H :=
 fun a w hs ho hh => (wpIn_wide (n := 0)).1 (wpIn_region_list (h a w hs ho hh))

theorem HListI.nil (h : Q .normal ρ H) : HListI P w0 n ops Q [] ρ H :=
 fun _ _ hs ho hh => wpListIn_nil ⟨ho, ρ, hs, by rw [hh]; exact h⟩

theorem HListI.vals {v : Value} (hd : Nat.blt d n = true) (h : HVal P ⟨some d, op, ty, pos, af, none⟩ ρ H v) (k : HListI P w0 n ops Q rest (Env.set ρ d v) H) :
  HListI P w0 n ops Q (⟨some d, op, ty, pos, af, none⟩ :: rest) ρ H := by
 intro a w hs ho hh
 refine wpListIn_plain rfl fun K' hK => ⟨fun _ _ => trivial, ?_⟩
 have hv := h w hh
 rw [← hs.eval] at hv
 have e : (Oper.semAt Fence.wide.round a.eval ⟨some d, op, ty, pos, af, none⟩) = execOp a.eval ⟨some d, op, ty, pos, af, none⟩ := rfl
 rw [e, hv]
 exact hK _ _ (k _ _ (hs.put (d := some d) hd v) ho hh)

theorem HListI.yield {f : Operand} {args : Array Operand} {at_ : Array TypeId} {K : Bool → Hp → Prop} (hd : Nat.blt d n = true) {fv : Value} (vs : List Value) (hf : ρ.ev f = fv) (hv : args.toList.map ρ.ev = vs) (h : YieldG P fv vs H K)
  (k : ∀ b H', K b H' → HListI P w0 n ops Q rest (Env.set ρ d (.bool b)) H') : HListI P w0 n ops Q (⟨some d, .call ⟨.value f, args, at_⟩, ty, pos, af, none⟩ :: rest) ρ H := by
 intro a w hs ho hh
 refine wpListIn_plain rfl fun K' hK => ⟨fun _ _ => trivial, ?_⟩
 obtain ⟨l, rfl, h⟩ := h
 obtain ⟨fn, tmps, assign, body, hy, hR⟩ := h w hh
 have hv' : args.map ρ.ev = vs.toArray := by
  apply Array.ext'; simpa using hv
 have e : (Oper.semAt Fence.wide.round a.eval ⟨some d, .call ⟨.value f, args, at_⟩, ty, pos, af, none⟩) = execOp a.eval ⟨some d, .call ⟨.value f, args, at_⟩, ty, pos, af, none⟩ := rfl
 rw [e]
 unfold execOp
 simp only [resolve, hs.eval, hf, Deferred.ofValue, Sem.run_bind, Sem.run_pure, Result.andThen_ok, invoke, Array.empty_append, hv', hy, Oper.uponIn_round]
 refine ⟨fun h => (by cases h), RoundIn.mono (RoundIn.wide0 hR) ?_⟩
 rintro e w' ⟨b, rfl, ho', hq⟩
 exact hK _ _ (k b _ hq _ _ (hs.put (d := some d) hd (.bool b)) (ho.tr ho') rfl)

theorem HVal.gtrS {d : Option Nat} {g : Option (Nat × Bool)} {t u : TypeId} {x y : Operand} {a b : ByteArray} (hx : ρ.ev x = .string a) (hy : ρ.ev y = .string b) : HVal P ⟨d, .binOp .gtr t x y u, ty, pos, af, g⟩ ρ H (.bool (!(slt a b) && !(seq a b))) := fun w _ => by
 simp [execOp, hx, hy, eqGuard, Go.binOp, Op.stringOp, slt, seq]
end
end Go.Hw
