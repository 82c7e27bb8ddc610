/- What the printed walks lean on: the texts of the program, the fields of its structs. -/
import Derived.Test.YtjeponambmjhcaaDoorHwG
import Derived.Test.YtjeponambmjhcaaDoorProg
import Derived.KernelRfl
set_option linter.unusedVariables false
set_option linter.unusedSimpArgs false
namespace Go.Hw
open Go Go.Proofs
def S_a : ByteArray := ⟨#[97]⟩
def S_b : ByteArray := ⟨#[98]⟩
def S_c : ByteArray := ⟨#[99]⟩
def S_d : ByteArray := ⟨#[100]⟩
def S_e : ByteArray := ⟨#[101]⟩
theorem mixed : Tryd.prog.follows .mixedOrders = true := by kernel_rfl
theorem places61 : Ru Tryd.prog ((#[Go.Field.mk "list" 59 0 false "" "refrain/order" 0, Go.Field.mk "ahead" 57 1 false "" "refrain/order" 24]).mapM fun f => do pure (f.offset, ← sizeOf f.type)) #[(0, 1), (1, 1)] := fun w => by simp
theorem places63 : Ru Tryd.prog ((#[Go.Field.mk "late" 2 0 false "" "refrain/order" 0, Go.Field.mk "room" 3 1 false "" "refrain/order" 8, Go.Field.mk "count" 2 2 false "" "refrain/order" 16, Go.Field.mk "top" 2 3 false "" "refrain/order" 24, Go.Field.mk "mark" 2 4 false "" "refrain/order" 32, Go.Field.mk "wait" 58 5 false "" "refrain/order" 40]).mapM fun f => do pure (f.offset, ← sizeOf f.type)) #[(0, 1), (1, 1), (2, 1), (3, 1), (4, 1), (5, 1)] := fun w => by simp
theorem places56 : Ru Tryd.prog ((#[Go.Field.mk "num" 2 0 false "" "refrain/order" 0, Go.Field.mk "event" 33 1 false "" "refrain/order" 8]).mapM fun f => do pure (f.offset, ← sizeOf f.type)) #[(0, 1), (1, 3)] := fun w => by simp
theorem places33 : Ru Tryd.prog ((#[Go.Field.mk "Type" 9 0 false "" "" 0, Go.Field.mk "Time" 2 1 false "" "" 16, Go.Field.mk "Vals" 31 2 false "" "" 24]).mapM fun f => do pure (f.offset, ← sizeOf f.type)) #[(0, 1), (1, 1), (2, 1)] := fun w => by simp
theorem eqs76_run (d : Nat) {x0 : Int} {x1 : Int} {x2 : ByteArray} {x3 : Bool} {y0 : Int} {y1 : Int} {y2 : ByteArray} {y3 : Bool} : Ru Tryd.prog (Op.equalIn (d + 2) 76 (.agg #[(.int .i64 x0), (.int .i64 x1), (.string x2), (.bool x3)]) (.agg #[(.int .i64 y0), (.int .i64 y1), (.string y2), (.bool y3)])) (decide (x0 = y0) && (decide (x1 = y1) && (seq x2 y2 && (x3 == y3)))) :=
  eq_struct Tryd.underlying76 (by kernel_rfl) (eqf_cons (by decide) (part1 Tryd.isAgg3 rfl) (part1 Tryd.isAgg3 rfl) (eqI (d := d + 0) Tryd.underlying3) (eqf_cons (by decide) (part1 Tryd.isAgg2 rfl) (part1 Tryd.isAgg2 rfl) (eqI (d := d + 0) Tryd.underlying2) (eqf_cons (by decide) (part1 Tryd.isAgg9 rfl) (part1 Tryd.isAgg9 rfl) (eqS (d := d + 0) Tryd.underlying9) (eqf_one (by decide) (part1 Tryd.isAgg4 rfl) (part1 Tryd.isAgg4 rfl) (eqB (d := d + 0) Tryd.underlying4)))))
theorem eqs76_eql {ρ : Env} {H : Hp} {d : Option Nat} {u ty : TypeId} {pos : String} {af : Array Edge} {g : Option (Nat × Bool)} {a b : Operand} {x0 : Int} {x1 : Int} {x2 : ByteArray} {x3 : Bool} {y0 : Int} {y1 : Int} {y2 : ByteArray} {y3 : Bool} (hx : ρ.ev a = (.agg #[(.int .i64 x0), (.int .i64 x1), (.string x2), (.bool x3)])) (hy : ρ.ev b = (.agg #[(.int .i64 y0), (.int .i64 y1), (.string y2), (.bool y3)])) : HVal Tryd.prog ⟨d, .binOp .eql 76 a b u, ty, pos, af, g⟩ ρ H (.bool (decide (x0 = y0) && (decide (x1 = y1) && (seq x2 y2 && (x3 == y3))))) :=
  HVal.eqlAgg (by kernel_rfl) hx hy (eqs76_run 9998)
theorem eqs76_neq {ρ : Env} {H : Hp} {d : Option Nat} {u ty : TypeId} {pos : String} {af : Array Edge} {g : Option (Nat × Bool)} {a b : Operand} {x0 : Int} {x1 : Int} {x2 : ByteArray} {x3 : Bool} {y0 : Int} {y1 : Int} {y2 : ByteArray} {y3 : Bool} (hx : ρ.ev a = (.agg #[(.int .i64 x0), (.int .i64 x1), (.string x2), (.bool x3)])) (hy : ρ.ev b = (.agg #[(.int .i64 y0), (.int .i64 y1), (.string y2), (.bool y3)])) : HVal Tryd.prog ⟨d, .binOp .neq 76 a b u, ty, pos, af, g⟩ ρ H (.bool (!(decide (x0 = y0) && (decide (x1 = y1) && (seq x2 y2 && (x3 == y3)))))) :=
  HVal.neqAgg (by kernel_rfl) hx hy (eqs76_run 9998)
theorem places44 : Ru Tryd.prog ((#[Go.Field.mk "Step" 3 0 false "" "" 0, Go.Field.mk "Time" 2 1 false "" "" 8, Go.Field.mk "Gone" 4 2 false "" "" 16]).mapM fun f => do pure (f.offset, ← sizeOf f.type)) #[(0, 1), (1, 1), (2, 1)] := fun w => by simp
theorem places46 : Ru Tryd.prog ((#[Go.Field.mk "Ways" 42 0 false "" "" 0, Go.Field.mk "Last" 44 1 false "" "" 24, Go.Field.mk "Any" 4 4 false "" "" 48]).mapM fun f => do pure (f.offset, ← sizeOf f.type)) #[(0, 1), (1, 3), (4, 1)] := fun w => by simp
end Go.Hw
