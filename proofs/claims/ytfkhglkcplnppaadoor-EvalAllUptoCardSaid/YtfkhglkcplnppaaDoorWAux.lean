/- What the printed walks lean on: the texts of the program, the fields of its structs. -/
import Derived.Test.YtfkhglkcplnppaaDoorHwZ
import Derived.Test.YtfkhglkcplnppaaDoorProg
import Derived.KernelRfl
set_option linter.unusedVariables false
set_option linter.unusedSimpArgs false
set_option maxRecDepth 100000
set_option maxHeartbeats 4000000
namespace Go.Hw
abbrev ZQV := Int → Int → ByteArray → Bool → Int → Hp → Prop
abbrev ZQI := Int → Hp → Prop
abbrev ZQB := Bool → Hp → Prop
open Go Go.Proofs Tryd
def S_T : ByteArray := ⟨#[84]⟩
def S_x : ByteArray := ⟨#[120]⟩
def S_s : ByteArray := ⟨#[115]⟩
def S_a : ByteArray := ⟨#[97]⟩
def S_b : ByteArray := ⟨#[98]⟩
def S_c : ByteArray := ⟨#[99]⟩
def S_p : ByteArray := ⟨#[112]⟩
def S_q : ByteArray := ⟨#[113]⟩
def S_r : ByteArray := ⟨#[114]⟩
def S_z : ByteArray := ⟨#[122]⟩
def S_time : ByteArray := ⟨#[116, 105, 109, 101]⟩
def S_mark : ByteArray := ⟨#[109, 97, 114, 107]⟩
def S_kept : ByteArray := ⟨#[107, 101, 112, 116]⟩
def S_d : ByteArray := ⟨#[100]⟩
theorem mixed : prog.follows .mixedOrders = true := by kernel_rfl
theorem places41 : Ru prog ((#[Go.Field.mk "Kind" 3 0 false "" "" 0, Go.Field.mk "Op" 3 1 false "" "" 8, Go.Field.mk "Val" 38 2 false "" "" 16, Go.Field.mk "Var" 9 6 false "" "" 56, Go.Field.mk "At" 3 7 false "" "" 72, Go.Field.mk "Attr" 9 8 false "" "" 80, Go.Field.mk "Kids" 39 9 false "" "" 96]).mapM fun f => do pure (f.offset, ← sizeOf f.type)) #[(0, 1), (1, 1), (2, 4), (6, 1), (7, 1), (8, 1), (9, 1)] := fun w => by simp
theorem places38 : Ru prog ((#[Go.Field.mk "Kind" 3 0 false "" "" 0, Go.Field.mk "Int" 2 1 false "" "" 8, Go.Field.mk "Str" 9 2 false "" "" 16, Go.Field.mk "Bool" 4 3 false "" "" 32]).mapM fun f => do pure (f.offset, ← sizeOf f.type)) #[(0, 1), (1, 1), (2, 1), (3, 1)] := fun w => by simp
theorem places36 : Ru prog ((#[Go.Field.mk "Type" 9 0 false "" "" 0, Go.Field.mk "Time" 2 1 false "" "" 16, Go.Field.mk "Vals" 34 2 false "" "" 24]).mapM fun f => do pure (f.offset, ← sizeOf f.type)) #[(0, 1), (1, 1), (2, 1)] := fun w => by simp
theorem places83 : Ru prog ((#[Go.Field.mk "Name" 9 0 false "" "" 0, Go.Field.mk "Kind" 3 1 false "" "" 16]).mapM fun f => do pure (f.offset, ← sizeOf f.type)) #[(0, 1), (1, 1)] := fun w => by simp
theorem places86 : Ru prog ((#[Go.Field.mk "Name" 9 0 false "" "" 0, Go.Field.mk "Attrs" 84 1 false "" "" 16]).mapM fun f => do pure (f.offset, ← sizeOf f.type)) #[(0, 1), (1, 1)] := fun w => by simp
theorem places43 : Ru prog ((#[Go.Field.mk "Vars" 29 0 false "" "" 0, Go.Field.mk "Bound" 27 1 false "" "" 24, Go.Field.mk "It" 9 2 false "" "" 48, Go.Field.mk "Now" 36 3 false "" "" 64, Go.Field.mk "Types" 30 6 false "" "" 112]).mapM fun f => do pure (f.offset, ← sizeOf f.type)) #[(0, 1), (1, 1), (2, 1), (3, 3), (6, 1)] := fun w => by simp
theorem eqs38_run (d : Nat) {x0 : Int} {x1 : Int} {x2 : ByteArray} {x3 : Bool} {y0 : Int} {y1 : Int} {y2 : ByteArray} {y3 : Bool} : Ru prog (Op.equalIn (d + 2) 38 (.agg #[(.int .i64 x0), (.int .i64 x1), (.string x2), (.bool x3)]) (.agg #[(.int .i64 y0), (.int .i64 y1), (.string y2), (.bool y3)])) (decide (x0 = y0) && (decide (x1 = y1) && (seq x2 y2 && (x3 == y3)))) :=
 eq_struct underlying38 (by kernel_rfl) (eqf_cons (by decide) (part1 isAgg3 rfl) (part1 isAgg3 rfl) (eqI (d := d + 0) underlying3) (eqf_cons (by decide) (part1 isAgg2 rfl) (part1 isAgg2 rfl) (eqI (d := d + 0) underlying2) (eqf_cons (by decide) (part1 isAgg9 rfl) (part1 isAgg9 rfl) (eqS (d := d + 0) underlying9) (eqf_one (by decide) (part1 isAgg4 rfl) (part1 isAgg4 rfl) (eqB (d := d + 0) underlying4)))))
theorem eqs38_eql {ρ : Env} {H : Hp} {d : Option Nat} {u ty : TypeId} {pos : String} {af : Array Edge} {g : Option (Nat × Bool)} {a b : Operand} {x0 : Int} {x1 : Int} {x2 : ByteArray} {x3 : Bool} {y0 : Int} {y1 : Int} {y2 : ByteArray} {y3 : Bool} (hx : ρ.ev a = (.agg #[(.int .i64 x0), (.int .i64 x1), (.string x2), (.bool x3)])) (hy : ρ.ev b = (.agg #[(.int .i64 y0), (.int .i64 y1), (.string y2), (.bool y3)])) : HVal prog ⟨d, .binOp .eql 38 a b u, ty, pos, af, g⟩ ρ H (.bool (decide (x0 = y0) && (decide (x1 = y1) && (seq x2 y2 && (x3 == y3))))) :=
 HVal.eqlAgg (by kernel_rfl) hx hy (eqs38_run 9998)
theorem eqs38_neq {ρ : Env} {H : Hp} {d : Option Nat} {u ty : TypeId} {pos : String} {af : Array Edge} {g : Option (Nat × Bool)} {a b : Operand} {x0 : Int} {x1 : Int} {x2 : ByteArray} {x3 : Bool} {y0 : Int} {y1 : Int} {y2 : ByteArray} {y3 : Bool} (hx : ρ.ev a = (.agg #[(.int .i64 x0), (.int .i64 x1), (.string x2), (.bool x3)])) (hy : ρ.ev b = (.agg #[(.int .i64 y0), (.int .i64 y1), (.string y2), (.bool y3)])) : HVal prog ⟨d, .binOp .neq 38 a b u, ty, pos, af, g⟩ ρ H (.bool (!(decide (x0 = y0) && (decide (x1 = y1) && (seq x2 y2 && (x3 == y3)))))) :=
 HVal.neqAgg (by kernel_rfl) hx hy (eqs38_run 9998)
theorem places90 : Ru prog ((#[Go.Field.mk "env" 43 0 false "" "refrain/eval" 0]).mapM fun f => do pure (f.offset, ← sizeOf f.type)) #[(0, 7)] := fun w => by simp
theorem eqs83_run (d : Nat) {x0 : ByteArray} {x1 : Int} {y0 : ByteArray} {y1 : Int} : Ru prog (Op.equalIn (d + 2) 83 (.agg #[(.string x0), (.int .i64 x1)]) (.agg #[(.string y0), (.int .i64 y1)])) (seq x0 y0 && decide (x1 = y1)) :=
 eq_struct underlying83 (by kernel_rfl) (eqf_cons (by decide) (part1 isAgg9 rfl) (part1 isAgg9 rfl) (eqS (d := d + 0) underlying9) (eqf_one (by decide) (part1 isAgg3 rfl) (part1 isAgg3 rfl) (eqI (d := d + 0) underlying3)))
theorem eqs83_eql {ρ : Env} {H : Hp} {d : Option Nat} {u ty : TypeId} {pos : String} {af : Array Edge} {g : Option (Nat × Bool)} {a b : Operand} {x0 : ByteArray} {x1 : Int} {y0 : ByteArray} {y1 : Int} (hx : ρ.ev a = (.agg #[(.string x0), (.int .i64 x1)])) (hy : ρ.ev b = (.agg #[(.string y0), (.int .i64 y1)])) : HVal prog ⟨d, .binOp .eql 83 a b u, ty, pos, af, g⟩ ρ H (.bool (seq x0 y0 && decide (x1 = y1))) :=
 HVal.eqlAgg (by kernel_rfl) hx hy (eqs83_run 9998)
theorem eqs83_neq {ρ : Env} {H : Hp} {d : Option Nat} {u ty : TypeId} {pos : String} {af : Array Edge} {g : Option (Nat × Bool)} {a b : Operand} {x0 : ByteArray} {x1 : Int} {y0 : ByteArray} {y1 : Int} (hx : ρ.ev a = (.agg #[(.string x0), (.int .i64 x1)])) (hy : ρ.ev b = (.agg #[(.string y0), (.int .i64 y1)])) : HVal prog ⟨d, .binOp .neq 83 a b u, ty, pos, af, g⟩ ρ H (.bool (!(seq x0 y0 && decide (x1 = y1)))) :=
 HVal.neqAgg (by kernel_rfl) hx hy (eqs83_run 9998)
theorem places32 : Ru prog ((#[Go.Field.mk "exprs" 25 0 false "" "refrain/refrainlaw11" 0, Go.Field.mk "vals" 26 1 false "" "refrain/refrainlaw11" 24, Go.Field.mk "events" 27 2 false "" "refrain/refrainlaw11" 48, Go.Field.mk "attrs" 28 3 false "" "refrain/refrainlaw11" 72, Go.Field.mk "vars" 29 4 false "" "refrain/refrainlaw11" 96, Go.Field.mk "bound" 27 5 false "" "refrain/refrainlaw11" 120, Go.Field.mk "types" 30 6 false "" "refrain/refrainlaw11" 144, Go.Field.mk "x" 3 7 false "" "refrain/refrainlaw11" 168, Go.Field.mk "v" 3 8 false "" "refrain/refrainlaw11" 176, Go.Field.mk "e" 3 9 false "" "refrain/refrainlaw11" 184, Go.Field.mk "a" 3 10 false "" "refrain/refrainlaw11" 192]).mapM fun f => do pure (f.offset, ← sizeOf f.type)) #[(0, 1), (1, 1), (2, 1), (3, 1), (4, 1), (5, 1), (6, 1), (7, 1), (8, 1), (9, 1), (10, 1)] := fun w => by simp
end Go.Hw
