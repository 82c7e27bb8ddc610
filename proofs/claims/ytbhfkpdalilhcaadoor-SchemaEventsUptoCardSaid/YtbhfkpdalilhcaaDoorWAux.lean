/- What the printed walks lean on: the texts of the program, the fields of its structs. -/
import Derived.Test.YtbhfkpdalilhcaaDoorHwS
import Derived.Test.YtbhfkpdalilhcaaDoorProg
import Derived.KernelRfl
set_option linter.unusedVariables false
set_option linter.unusedSimpArgs false
namespace Go.Hw
open Go Go.Proofs
def S_T : ByteArray := ⟨#[84]⟩
def S_a : ByteArray := ⟨#[97]⟩
def S_time : ByteArray := ⟨#[116, 105, 109, 101]⟩
def S_t : ByteArray := ⟨#[116]⟩
def S_x : ByteArray := ⟨#[120]⟩
theorem mixed : Tryd.prog.follows .mixedOrders = true := by kernel_rfl
theorem places72 : Ru Tryd.prog ((#[Go.Field.mk "types" 70 0 false "" "refrain/schema" 0]).mapM fun f => do pure (f.offset, ← sizeOf f.type)) #[(0, 1)] := fun w => by simp
theorem places27 : Ru Tryd.prog ((#[Go.Field.mk "Name" 9 0 false "" "" 0, Go.Field.mk "Attrs" 25 1 false "" "" 16]).mapM fun f => do pure (f.offset, ← sizeOf f.type)) #[(0, 1), (1, 1)] := fun w => by simp
theorem places38 : Ru Tryd.prog ((#[Go.Field.mk "Name" 9 0 false "" "" 0, Go.Field.mk "Kind" 3 1 false "" "" 16]).mapM fun f => do pure (f.offset, ← sizeOf f.type)) #[(0, 1), (1, 1)] := fun w => by simp
theorem places35 : Ru Tryd.prog ((#[Go.Field.mk "Kind" 3 0 false "" "" 0, Go.Field.mk "Int" 2 1 false "" "" 8, Go.Field.mk "Str" 9 2 false "" "" 16, Go.Field.mk "Bool" 4 3 false "" "" 32]).mapM fun f => do pure (f.offset, ← sizeOf f.type)) #[(0, 1), (1, 1), (2, 1), (3, 1)] := fun w => by simp
theorem eqs35_run (d : Nat) {x0 : Int} {x1 : Int} {x2 : ByteArray} {x3 : Bool} {y0 : Int} {y1 : Int} {y2 : ByteArray} {y3 : Bool} : Ru Tryd.prog (Op.equalIn (d + 2) 35 (.agg #[(.int .i64 x0), (.int .i64 x1), (.string x2), (.bool x3)]) (.agg #[(.int .i64 y0), (.int .i64 y1), (.string y2), (.bool y3)])) (decide (x0 = y0) && (decide (x1 = y1) && (seq x2 y2 && (x3 == y3)))) :=
  eq_struct Tryd.underlying35 (by kernel_rfl) (eqf_cons (by decide) (part1 Tryd.isAgg3 rfl) (part1 Tryd.isAgg3 rfl) (eqI (d := d + 0) Tryd.underlying3) (eqf_cons (by decide) (part1 Tryd.isAgg2 rfl) (part1 Tryd.isAgg2 rfl) (eqI (d := d + 0) Tryd.underlying2) (eqf_cons (by decide) (part1 Tryd.isAgg9 rfl) (part1 Tryd.isAgg9 rfl) (eqS (d := d + 0) Tryd.underlying9) (eqf_one (by decide) (part1 Tryd.isAgg4 rfl) (part1 Tryd.isAgg4 rfl) (eqB (d := d + 0) Tryd.underlying4)))))
theorem eqs35_eql {ρ : Env} {H : Hp} {d : Option Nat} {u ty : TypeId} {pos : String} {af : Array Edge} {g : Option (Nat × Bool)} {a b : Operand} {x0 : Int} {x1 : Int} {x2 : ByteArray} {x3 : Bool} {y0 : Int} {y1 : Int} {y2 : ByteArray} {y3 : Bool} (hx : ρ.ev a = (.agg #[(.int .i64 x0), (.int .i64 x1), (.string x2), (.bool x3)])) (hy : ρ.ev b = (.agg #[(.int .i64 y0), (.int .i64 y1), (.string y2), (.bool y3)])) : HVal Tryd.prog ⟨d, .binOp .eql 35 a b u, ty, pos, af, g⟩ ρ H (.bool (decide (x0 = y0) && (decide (x1 = y1) && (seq x2 y2 && (x3 == y3))))) :=
  HVal.eqlAgg (by kernel_rfl) hx hy (eqs35_run 9998)
theorem eqs35_neq {ρ : Env} {H : Hp} {d : Option Nat} {u ty : TypeId} {pos : String} {af : Array Edge} {g : Option (Nat × Bool)} {a b : Operand} {x0 : Int} {x1 : Int} {x2 : ByteArray} {x3 : Bool} {y0 : Int} {y1 : Int} {y2 : ByteArray} {y3 : Bool} (hx : ρ.ev a = (.agg #[(.int .i64 x0), (.int .i64 x1), (.string x2), (.bool x3)])) (hy : ρ.ev b = (.agg #[(.int .i64 y0), (.int .i64 y1), (.string y2), (.bool y3)])) : HVal Tryd.prog ⟨d, .binOp .neq 35 a b u, ty, pos, af, g⟩ ρ H (.bool (!(decide (x0 = y0) && (decide (x1 = y1) && (seq x2 y2 && (x3 == y3)))))) :=
  HVal.neqAgg (by kernel_rfl) hx hy (eqs35_run 9998)
def mk9 : ByteArray → Value := fun x => (.string x)
def mv27 : (ByteArray × Sl) → Value := fun x => (.agg #[(.string x.1), (Sl.v x.2)])
theorem mkk9 : KeyOk Tryd.prog 9 mk9 Always := keyS Tryd.underlying9
theorem places33 : Ru Tryd.prog ((#[Go.Field.mk "Type" 9 0 false "" "" 0, Go.Field.mk "Time" 2 1 false "" "" 16, Go.Field.mk "Vals" 31 2 false "" "" 24]).mapM fun f => do pure (f.offset, ← sizeOf f.type)) #[(0, 1), (1, 1), (2, 1)] := fun w => by simp
end Go.Hw
