/- What the printed walks lean on: the texts of the program, the fields of its structs. -/
import Derived.Test.YtjeponambmjhcaaHwG
import Derived.Test.YtjeponambmjhcaaProg
import Derived.KernelRfl
set_option linter.unusedVariables false
set_option linter.unusedSimpArgs false
namespace Go.Hw
open Go Go.Proofs
def S_a : ByteArray := ⟨#[97]⟩
def S_b : ByteArray := ⟨#[98]⟩
def S_c : ByteArray := ⟨#[99]⟩
def S_d : ByteArray := ⟨#[100]⟩
def S_e : ByteArray := ⟨#[101]⟩
theorem mixed : Try.prog.follows .mixedOrders = true := by kernel_rfl
theorem places32 : Ru Try.prog ((#[Go.Field.mk "Type" 9 0 false "" "" 0, Go.Field.mk "Time" 2 1 false "" "" 16, Go.Field.mk "Vals" 30 2 false "" "" 24]).mapM fun f => do pure (f.offset, ← sizeOf f.type)) #[(0, 1), (1, 1), (2, 1)] := fun w => by simp
theorem eqs49_run (d : Nat) {x0 : Int} {x1 : Int} {x2 : ByteArray} {x3 : Bool} {y0 : Int} {y1 : Int} {y2 : ByteArray} {y3 : Bool} : Ru Try.prog (Op.equalIn (d + 2) 49 (.agg #[(.int .i64 x0), (.int .i64 x1), (.string x2), (.bool x3)]) (.agg #[(.int .i64 y0), (.int .i64 y1), (.string y2), (.bool y3)])) (decide (x0 = y0) && (decide (x1 = y1) && (seq x2 y2 && (x3 == y3)))) :=
  eq_struct Try.underlying49 (by kernel_rfl) (eqf_cons (by decide) (part1 Try.isAgg3 rfl) (part1 Try.isAgg3 rfl) (eqI (d := d + 0) Try.underlying3) (eqf_cons (by decide) (part1 Try.isAgg2 rfl) (part1 Try.isAgg2 rfl) (eqI (d := d + 0) Try.underlying2) (eqf_cons (by decide) (part1 Try.isAgg9 rfl) (part1 Try.isAgg9 rfl) (eqS (d := d + 0) Try.underlying9) (eqf_one (by decide) (part1 Try.isAgg4 rfl) (part1 Try.isAgg4 rfl) (eqB (d := d + 0) Try.underlying4)))))
theorem eqs49_eql {ρ : Env} {H : Hp} {d : Option Nat} {u ty : TypeId} {pos : String} {af : Array Edge} {g : Option (Nat × Bool)} {a b : Operand} {x0 : Int} {x1 : Int} {x2 : ByteArray} {x3 : Bool} {y0 : Int} {y1 : Int} {y2 : ByteArray} {y3 : Bool} (hx : ρ.ev a = (.agg #[(.int .i64 x0), (.int .i64 x1), (.string x2), (.bool x3)])) (hy : ρ.ev b = (.agg #[(.int .i64 y0), (.int .i64 y1), (.string y2), (.bool y3)])) : HVal Try.prog ⟨d, .binOp .eql 49 a b u, ty, pos, af, g⟩ ρ H (.bool (decide (x0 = y0) && (decide (x1 = y1) && (seq x2 y2 && (x3 == y3))))) :=
  HVal.eqlAgg (by kernel_rfl) hx hy (eqs49_run 9998)
theorem eqs49_neq {ρ : Env} {H : Hp} {d : Option Nat} {u ty : TypeId} {pos : String} {af : Array Edge} {g : Option (Nat × Bool)} {a b : Operand} {x0 : Int} {x1 : Int} {x2 : ByteArray} {x3 : Bool} {y0 : Int} {y1 : Int} {y2 : ByteArray} {y3 : Bool} (hx : ρ.ev a = (.agg #[(.int .i64 x0), (.int .i64 x1), (.string x2), (.bool x3)])) (hy : ρ.ev b = (.agg #[(.int .i64 y0), (.int .i64 y1), (.string y2), (.bool y3)])) : HVal Try.prog ⟨d, .binOp .neq 49 a b u, ty, pos, af, g⟩ ρ H (.bool (!(decide (x0 = y0) && (decide (x1 = y1) && (seq x2 y2 && (x3 == y3)))))) :=
  HVal.neqAgg (by kernel_rfl) hx hy (eqs49_run 9998)
theorem places73 : Ru Try.prog ((#[Go.Field.mk "list" 71 0 false "" "refrain/order" 0, Go.Field.mk "ahead" 69 1 false "" "refrain/order" 24]).mapM fun f => do pure (f.offset, ← sizeOf f.type)) #[(0, 1), (1, 1)] := fun w => by simp
theorem places75 : Ru Try.prog ((#[Go.Field.mk "late" 2 0 false "" "refrain/order" 0, Go.Field.mk "room" 3 1 false "" "refrain/order" 8, Go.Field.mk "count" 2 2 false "" "refrain/order" 16, Go.Field.mk "top" 2 3 false "" "refrain/order" 24, Go.Field.mk "mark" 2 4 false "" "refrain/order" 32, Go.Field.mk "wait" 70 5 false "" "refrain/order" 40]).mapM fun f => do pure (f.offset, ← sizeOf f.type)) #[(0, 1), (1, 1), (2, 1), (3, 1), (4, 1), (5, 1)] := fun w => by simp
theorem places68 : Ru Try.prog ((#[Go.Field.mk "num" 2 0 false "" "refrain/order" 0, Go.Field.mk "event" 32 1 false "" "refrain/order" 8]).mapM fun f => do pure (f.offset, ← sizeOf f.type)) #[(0, 1), (1, 3)] := fun w => by simp
theorem places80 : Ru Try.prog ((#[Go.Field.mk "late" 2 0 false "" "refrain/refrainref18" 0, Go.Field.mk "room" 3 1 false "" "refrain/refrainref18" 8, Go.Field.mk "held" 50 2 false "" "refrain/refrainref18" 16, Go.Field.mk "greatest" 2 3 false "" "refrain/refrainref18" 40, Go.Field.mk "mark" 2 4 false "" "refrain/refrainref18" 48]).mapM fun f => do pure (f.offset, ← sizeOf f.type)) #[(0, 1), (1, 1), (2, 1), (3, 1), (4, 1)] := fun w => by simp
theorem places26 : Ru Try.prog ((#[Go.Field.mk "g" 23 0 false "" "refrain/refrainlaw18" 0, Go.Field.mk "r" 24 1 false "" "refrain/refrainlaw18" 8]).mapM fun f => do pure (f.offset, ← sizeOf f.type)) #[(0, 1), (1, 1)] := fun w => by simp
theorem places34 : Ru Try.prog ((#[Go.Field.mk "Kind" 3 0 false "" "" 0, Go.Field.mk "On" 4 1 false "" "" 8, Go.Field.mk "E" 32 2 false "" "" 16, Go.Field.mk "Now" 2 5 false "" "" 64]).mapM fun f => do pure (f.offset, ← sizeOf f.type)) #[(0, 1), (1, 1), (2, 3), (5, 1)] := fun w => by simp
theorem places49 : Ru Try.prog ((#[Go.Field.mk "Kind" 3 0 false "" "" 0, Go.Field.mk "Int" 2 1 false "" "" 8, Go.Field.mk "Str" 9 2 false "" "" 16, Go.Field.mk "Bool" 4 3 false "" "" 32]).mapM fun f => do pure (f.offset, ← sizeOf f.type)) #[(0, 1), (1, 1), (2, 1), (3, 1)] := fun w => by simp
theorem places45 : Ru Try.prog ((#[Go.Field.mk "Values" 41 0 false "" "" 0, Go.Field.mk "Events" 42 1 false "" "" 24, Go.Field.mk "Size" 3 2 false "" "" 48, Go.Field.mk "At" 43 3 false "" "" 56]).mapM fun f => do pure (f.offset, ← sizeOf f.type)) #[(0, 1), (1, 1), (2, 1), (3, 2)] := fun w => by simp
end Go.Hw
