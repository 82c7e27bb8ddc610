/- What the printed walks lean on: the texts of the program, the fields of its structs. -/
import Derived.Test.YtbhfkpdalilhcaaDoorHwZ
import Derived.Test.YtbhfkpdalilhcaaDoorProg
import Derived.KernelRfl
set_option linter.unusedVariables false
set_option linter.unusedSimpArgs false
set_option maxRecDepth 100000
set_option maxHeartbeats 4000000
namespace Go.Hw
open Go Go.Proofs Tryd
def S_time : ByteArray := ⟨#[116, 105, 109, 101]⟩
def S_TYPE : ByteArray := ⟨#[84, 89, 80, 69]⟩
def S__ : ByteArray := ⟨#[40]⟩
def S___ : ByteArray := ⟨#[41]⟩
def S____ : ByteArray := ⟨#[44]⟩
def S_PATTERN : ByteArray := ⟨#[80, 65, 84, 84, 69, 82, 78]⟩
def S_SEQ : ByteArray := ⟨#[83, 69, 81]⟩
def S_PARTITION : ByteArray := ⟨#[80, 65, 82, 84, 73, 84, 73, 79, 78]⟩
def S_BY : ByteArray := ⟨#[66, 89]⟩
def S_WHERE : ByteArray := ⟨#[87, 72, 69, 82, 69]⟩
def S_WITHIN : ByteArray := ⟨#[87, 73, 84, 72, 73, 78]⟩
def S_RETURN : ByteArray := ⟨#[82, 69, 84, 85, 82, 78]⟩
def S_AND : ByteArray := ⟨#[65, 78, 68]⟩
def S_OR : ByteArray := ⟨#[79, 82]⟩
def S_NOT : ByteArray := ⟨#[78, 79, 84]⟩
def S_TRUE : ByteArray := ⟨#[84, 82, 85, 69]⟩
def S_FALSE : ByteArray := ⟨#[70, 65, 76, 83, 69]⟩
def S_INT : ByteArray := ⟨#[73, 78, 84]⟩
def S_STR : ByteArray := ⟨#[83, 84, 82]⟩
def S_BOOL : ByteArray := ⟨#[66, 79, 79, 76]⟩
def S_kept : ByteArray := ⟨#[107, 101, 112, 116]⟩
def S_TYPE_ : ByteArray := ⟨#[84, 89, 80, 69, 32]⟩
def S_____ : ByteArray := ⟨#[32, 40]⟩
def S______ : ByteArray := ⟨#[44, 32]⟩
def S_______ : ByteArray := ⟨#[32]⟩
def S_price : ByteArray := ⟨#[112, 114, 105, 99, 101]⟩
def S_sym : ByteArray := ⟨#[115, 121, 109]⟩
def S_live : ByteArray := ⟨#[108, 105, 118, 101]⟩
def S_Trade : ByteArray := ⟨#[84, 114, 97, 100, 101]⟩
def S_TYPE_Trade__price_INT__s : ByteArray := ⟨#[84, 89, 80, 69, 32, 84, 114, 97, 100, 101, 32, 40, 112, 114, 105, 99, 101, 32, 73, 78, 84, 44, 32, 115, 121, 109, 32, 83, 84, 82, 44, 32, 108, 105, 118, 101, 32, 66, 79, 79, 76, 41]⟩
theorem mixed : prog.follows .mixedOrders = true := by kernel_rfl
theorem places27 : Ru prog ((#[Go.Field.mk "Name" 9 0 false "" "" 0, Go.Field.mk "Attrs" 25 1 false "" "" 16]).mapM fun f => do pure (f.offset, ← sizeOf f.type)) #[(0, 1), (1, 1)] := fun w => by simp
theorem places89 : Ru prog ((#[Go.Field.mk "all" 9 0 false "" "refrain/schema" 0, Go.Field.mk "at" 3 1 false "" "refrain/schema" 16, Go.Field.mk "next" 3 2 false "" "refrain/schema" 24, Go.Field.mk "text" 9 3 false "" "refrain/schema" 32]).mapM fun f => do pure (f.offset, ← sizeOf f.type)) #[(0, 1), (1, 1), (2, 1), (3, 1)] := fun w => by simp
theorem eqs38_run (d : Nat) {x0 : ByteArray} {x1 : Int} {y0 : ByteArray} {y1 : Int} : Ru prog (Op.equalIn (d + 2) 38 (.agg #[(.string x0), (.int .i64 x1)]) (.agg #[(.string y0), (.int .i64 y1)])) (seq x0 y0 && decide (x1 = y1)) :=
  eq_struct underlying38 (by kernel_rfl) (eqf_cons (by decide) (part1 isAgg9 rfl) (part1 isAgg9 rfl) (eqS (d := d + 0) underlying9) (eqf_one (by decide) (part1 isAgg3 rfl) (part1 isAgg3 rfl) (eqI (d := d + 0) underlying3)))
theorem eqs38_eql {ρ : Env} {H : Hp} {d : Option Nat} {u ty : TypeId} {pos : String} {af : Array Edge} {g : Option (Nat × Bool)} {a b : Operand} {x0 : ByteArray} {x1 : Int} {y0 : ByteArray} {y1 : Int} (hx : ρ.ev a = (.agg #[(.string x0), (.int .i64 x1)])) (hy : ρ.ev b = (.agg #[(.string y0), (.int .i64 y1)])) : HVal prog ⟨d, .binOp .eql 38 a b u, ty, pos, af, g⟩ ρ H (.bool (seq x0 y0 && decide (x1 = y1))) :=
  HVal.eqlAgg (by kernel_rfl) hx hy (eqs38_run 9998)
theorem eqs38_neq {ρ : Env} {H : Hp} {d : Option Nat} {u ty : TypeId} {pos : String} {af : Array Edge} {g : Option (Nat × Bool)} {a b : Operand} {x0 : ByteArray} {x1 : Int} {y0 : ByteArray} {y1 : Int} (hx : ρ.ev a = (.agg #[(.string x0), (.int .i64 x1)])) (hy : ρ.ev b = (.agg #[(.string y0), (.int .i64 y1)])) : HVal prog ⟨d, .binOp .neq 38 a b u, ty, pos, af, g⟩ ρ H (.bool (!(seq x0 y0 && decide (x1 = y1)))) :=
  HVal.neqAgg (by kernel_rfl) hx hy (eqs38_run 9998)
theorem places72 : Ru prog ((#[Go.Field.mk "types" 70 0 false "" "refrain/schema" 0]).mapM fun f => do pure (f.offset, ← sizeOf f.type)) #[(0, 1)] := fun w => by simp
theorem places118 : Ru prog ((#[Go.Field.mk "types" 54 0 false "" "refrain/refrainref2" 0]).mapM fun f => do pure (f.offset, ← sizeOf f.type)) #[(0, 1)] := fun w => by simp
theorem places101 : Ru prog ((#[Go.Field.mk "a" 23 0 false "" "refrain/refrainlaw2" 0, Go.Field.mk "b" 98 1 false "" "refrain/refrainlaw2" 8, Go.Field.mk "h" 58 2 false "" "refrain/refrainlaw2" 16]).mapM fun f => do pure (f.offset, ← sizeOf f.type)) #[(0, 1), (1, 1), (2, 1)] := fun w => by simp
theorem places35 : Ru prog ((#[Go.Field.mk "Kind" 3 0 false "" "" 0, Go.Field.mk "Int" 2 1 false "" "" 8, Go.Field.mk "Str" 9 2 false "" "" 16, Go.Field.mk "Bool" 4 3 false "" "" 32]).mapM fun f => do pure (f.offset, ← sizeOf f.type)) #[(0, 1), (1, 1), (2, 1), (3, 1)] := fun w => by simp
theorem eqs35_run (d : Nat) {x0 : Int} {x1 : Int} {x2 : ByteArray} {x3 : Bool} {y0 : Int} {y1 : Int} {y2 : ByteArray} {y3 : Bool} : Ru prog (Op.equalIn (d + 2) 35 (.agg #[(.int .i64 x0), (.int .i64 x1), (.string x2), (.bool x3)]) (.agg #[(.int .i64 y0), (.int .i64 y1), (.string y2), (.bool y3)])) (decide (x0 = y0) && (decide (x1 = y1) && (seq x2 y2 && (x3 == y3)))) :=
  eq_struct underlying35 (by kernel_rfl) (eqf_cons (by decide) (part1 isAgg3 rfl) (part1 isAgg3 rfl) (eqI (d := d + 0) underlying3) (eqf_cons (by decide) (part1 isAgg2 rfl) (part1 isAgg2 rfl) (eqI (d := d + 0) underlying2) (eqf_cons (by decide) (part1 isAgg9 rfl) (part1 isAgg9 rfl) (eqS (d := d + 0) underlying9) (eqf_one (by decide) (part1 isAgg4 rfl) (part1 isAgg4 rfl) (eqB (d := d + 0) underlying4)))))
theorem eqs35_eql {ρ : Env} {H : Hp} {d : Option Nat} {u ty : TypeId} {pos : String} {af : Array Edge} {g : Option (Nat × Bool)} {a b : Operand} {x0 : Int} {x1 : Int} {x2 : ByteArray} {x3 : Bool} {y0 : Int} {y1 : Int} {y2 : ByteArray} {y3 : Bool} (hx : ρ.ev a = (.agg #[(.int .i64 x0), (.int .i64 x1), (.string x2), (.bool x3)])) (hy : ρ.ev b = (.agg #[(.int .i64 y0), (.int .i64 y1), (.string y2), (.bool y3)])) : HVal prog ⟨d, .binOp .eql 35 a b u, ty, pos, af, g⟩ ρ H (.bool (decide (x0 = y0) && (decide (x1 = y1) && (seq x2 y2 && (x3 == y3))))) :=
  HVal.eqlAgg (by kernel_rfl) hx hy (eqs35_run 9998)
theorem eqs35_neq {ρ : Env} {H : Hp} {d : Option Nat} {u ty : TypeId} {pos : String} {af : Array Edge} {g : Option (Nat × Bool)} {a b : Operand} {x0 : Int} {x1 : Int} {x2 : ByteArray} {x3 : Bool} {y0 : Int} {y1 : Int} {y2 : ByteArray} {y3 : Bool} (hx : ρ.ev a = (.agg #[(.int .i64 x0), (.int .i64 x1), (.string x2), (.bool x3)])) (hy : ρ.ev b = (.agg #[(.int .i64 y0), (.int .i64 y1), (.string y2), (.bool y3)])) : HVal prog ⟨d, .binOp .neq 35 a b u, ty, pos, af, g⟩ ρ H (.bool (!(decide (x0 = y0) && (decide (x1 = y1) && (seq x2 y2 && (x3 == y3)))))) :=
  HVal.neqAgg (by kernel_rfl) hx hy (eqs35_run 9998)
def mk9 : ByteArray → Value := fun x => (.string x)
def mv27 : (ByteArray × Sl) → Value := fun x => (.agg #[(.string x.1), (Sl.v x.2)])
theorem mkk9 : KeyOk prog 9 mk9 Always := keyS underlying9
theorem places38 : Ru prog ((#[Go.Field.mk "Name" 9 0 false "" "" 0, Go.Field.mk "Kind" 3 1 false "" "" 16]).mapM fun f => do pure (f.offset, ← sizeOf f.type)) #[(0, 1), (1, 1)] := fun w => by simp
theorem places123 : Ru prog ((#[Go.Field.mk "text" 9 0 false "" "refrain/refrainref2" 0, Go.Field.mk "at" 3 1 false "" "refrain/refrainref2" 16, Go.Field.mk "word" 4 2 false "" "refrain/refrainref2" 24]).mapM fun f => do pure (f.offset, ← sizeOf f.type)) #[(0, 1), (1, 1), (2, 1)] := fun w => by simp
theorem places60 : Ru prog ((#[Go.Field.mk "attrs" 25 0 false "" "refrain/refrainlaw2" 0, Go.Field.mk "vals" 31 1 false "" "refrain/refrainlaw2" 24]).mapM fun f => do pure (f.offset, ← sizeOf f.type)) #[(0, 1), (1, 1)] := fun w => by simp
theorem places65 : Ru prog ((#[Go.Field.mk "Kind" 3 0 false "" "" 0, Go.Field.mk "Which" 3 1 false "" "" 8, Go.Field.mk "T" 27 2 false "" "" 16, Go.Field.mk "Text" 9 4 false "" "" 56, Go.Field.mk "E" 33 5 false "" "" 72]).mapM fun f => do pure (f.offset, ← sizeOf f.type)) #[(0, 1), (1, 1), (2, 2), (4, 1), (5, 3)] := fun w => by simp
end Go.Hw
