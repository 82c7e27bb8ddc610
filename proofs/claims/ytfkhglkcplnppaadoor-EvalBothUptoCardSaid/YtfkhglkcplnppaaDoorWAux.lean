/- What the printed walks lean on: the texts of the program, the fields of its structs. -/
import Derived.Test.YtfkhglkcplnppaaDoorHwT
import Derived.Test.YtfkhglkcplnppaaDoorProg
import Derived.KernelRfl
set_option linter.unusedVariables false
set_option linter.unusedSimpArgs false
namespace Go.Hw
open Go Go.Proofs
def S_T : ByteArray := ⟨#[84]⟩
def S_x : ByteArray := ⟨#[120]⟩
def S_s : ByteArray := ⟨#[115]⟩
def S_a : ByteArray := ⟨#[97]⟩
def S_b : ByteArray := ⟨#[98]⟩
def S_c : ByteArray := ⟨#[99]⟩
def S_p : ByteArray := ⟨#[112]⟩
def S_q : ByteArray := ⟨#[113]⟩
def S_r : ByteArray := ⟨#[114]⟩
def S_z : ByteArray := ⟨#[122]⟩
def S_time : ByteArray := ⟨#[116, 105, 109, 101]⟩
def S_d : ByteArray := ⟨#[100]⟩
def S_n : ByteArray := ⟨#[110]⟩
def S_y : ByteArray := ⟨#[121]⟩
theorem mixed : Tryd.prog.follows .mixedOrders = true := by kernel_rfl
theorem places41 : Ru Tryd.prog ((#[Go.Field.mk "Kind" 3 0 false "" "" 0, Go.Field.mk "Op" 3 1 false "" "" 8, Go.Field.mk "Val" 38 2 false "" "" 16, Go.Field.mk "Var" 9 6 false "" "" 56, Go.Field.mk "At" 3 7 false "" "" 72, Go.Field.mk "Attr" 9 8 false "" "" 80, Go.Field.mk "Kids" 39 9 false "" "" 96]).mapM fun f => do pure (f.offset, ← sizeOf f.type)) #[(0, 1), (1, 1), (2, 4), (6, 1), (7, 1), (8, 1), (9, 1)] := fun w => by simp
theorem places38 : Ru Tryd.prog ((#[Go.Field.mk "Kind" 3 0 false "" "" 0, Go.Field.mk "Int" 2 1 false "" "" 8, Go.Field.mk "Str" 9 2 false "" "" 16, Go.Field.mk "Bool" 4 3 false "" "" 32]).mapM fun f => do pure (f.offset, ← sizeOf f.type)) #[(0, 1), (1, 1), (2, 1), (3, 1)] := fun w => by simp
theorem places36 : Ru Tryd.prog ((#[Go.Field.mk "Type" 9 0 false "" "" 0, Go.Field.mk "Time" 2 1 false "" "" 16, Go.Field.mk "Vals" 34 2 false "" "" 24]).mapM fun f => do pure (f.offset, ← sizeOf f.type)) #[(0, 1), (1, 1), (2, 1)] := fun w => by simp
theorem places83 : Ru Tryd.prog ((#[Go.Field.mk "Name" 9 0 false "" "" 0, Go.Field.mk "Kind" 3 1 false "" "" 16]).mapM fun f => do pure (f.offset, ← sizeOf f.type)) #[(0, 1), (1, 1)] := fun w => by simp
theorem places86 : Ru Tryd.prog ((#[Go.Field.mk "Name" 9 0 false "" "" 0, Go.Field.mk "Attrs" 84 1 false "" "" 16]).mapM fun f => do pure (f.offset, ← sizeOf f.type)) #[(0, 1), (1, 1)] := fun w => by simp
theorem places43 : Ru Tryd.prog ((#[Go.Field.mk "Vars" 29 0 false "" "" 0, Go.Field.mk "Bound" 27 1 false "" "" 24, Go.Field.mk "It" 9 2 false "" "" 48, Go.Field.mk "Now" 36 3 false "" "" 64, Go.Field.mk "Types" 30 6 false "" "" 112]).mapM fun f => do pure (f.offset, ← sizeOf f.type)) #[(0, 1), (1, 1), (2, 1), (3, 3), (6, 1)] := fun w => by simp
theorem eqs38_run (d : Nat) {x0 : Int} {x1 : Int} {x2 : ByteArray} {x3 : Bool} {y0 : Int} {y1 : Int} {y2 : ByteArray} {y3 : Bool} : Ru Tryd.prog (Op.equalIn (d + 2) 38 (.agg #[(.int .i64 x0), (.int .i64 x1), (.string x2), (.bool x3)]) (.agg #[(.int .i64 y0), (.int .i64 y1), (.string y2), (.bool y3)])) (decide (x0 = y0) && (decide (x1 = y1) && (seq x2 y2 && (x3 == y3)))) :=
  eq_struct Tryd.underlying38 (by kernel_rfl) (eqf_cons (by decide) (part1 Tryd.isAgg3 rfl) (part1 Tryd.isAgg3 rfl) (eqI (d := d + 0) Tryd.underlying3) (eqf_cons (by decide) (part1 Tryd.isAgg2 rfl) (part1 Tryd.isAgg2 rfl) (eqI (d := d + 0) Tryd.underlying2) (eqf_cons (by decide) (part1 Tryd.isAgg9 rfl) (part1 Tryd.isAgg9 rfl) (eqS (d := d + 0) Tryd.underlying9) (eqf_one (by decide) (part1 Tryd.isAgg4 rfl) (part1 Tryd.isAgg4 rfl) (eqB (d := d + 0) Tryd.underlying4)))))
theorem eqs38_eql {ρ : Env} {H : Hp} {d : Option Nat} {u ty : TypeId} {pos : String} {af : Array Edge} {g : Option (Nat × Bool)} {a b : Operand} {x0 : Int} {x1 : Int} {x2 : ByteArray} {x3 : Bool} {y0 : Int} {y1 : Int} {y2 : ByteArray} {y3 : Bool} (hx : ρ.ev a = (.agg #[(.int .i64 x0), (.int .i64 x1), (.string x2), (.bool x3)])) (hy : ρ.ev b = (.agg #[(.int .i64 y0), (.int .i64 y1), (.string y2), (.bool y3)])) : HVal Tryd.prog ⟨d, .binOp .eql 38 a b u, ty, pos, af, g⟩ ρ H (.bool (decide (x0 = y0) && (decide (x1 = y1) && (seq x2 y2 && (x3 == y3))))) :=
  HVal.eqlAgg (by kernel_rfl) hx hy (eqs38_run 9998)
theorem eqs38_neq {ρ : Env} {H : Hp} {d : Option Nat} {u ty : TypeId} {pos : String} {af : Array Edge} {g : Option (Nat × Bool)} {a b : Operand} {x0 : Int} {x1 : Int} {x2 : ByteArray} {x3 : Bool} {y0 : Int} {y1 : Int} {y2 : ByteArray} {y3 : Bool} (hx : ρ.ev a = (.agg #[(.int .i64 x0), (.int .i64 x1), (.string x2), (.bool x3)])) (hy : ρ.ev b = (.agg #[(.int .i64 y0), (.int .i64 y1), (.string y2), (.bool y3)])) : HVal Tryd.prog ⟨d, .binOp .neq 38 a b u, ty, pos, af, g⟩ ρ H (.bool (!(decide (x0 = y0) && (decide (x1 = y1) && (seq x2 y2 && (x3 == y3)))))) :=
  HVal.neqAgg (by kernel_rfl) hx hy (eqs38_run 9998)
theorem places90 : Ru Tryd.prog ((#[Go.Field.mk "env" 43 0 false "" "refrain/eval" 0]).mapM fun f => do pure (f.offset, ← sizeOf f.type)) #[(0, 7)] := fun w => by simp
end Go.Hw
