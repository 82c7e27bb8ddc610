/- What the printed walks lean on: the texts of the program, the fields of its structs. -/
import Derived.Test.YtkdjcmfmflljlaaDoorHwZ
import Derived.Test.YtkdjcmfmflljlaaDoorProg
import Derived.KernelRfl
set_option linter.unusedVariables false
set_option linter.unusedSimpArgs false
set_option maxRecDepth 100000
set_option maxHeartbeats 4000000
namespace Go.Hw
open Go Go.Proofs Tryd
def S_time : ByteArray := ⟨#[116, 105, 109, 101]⟩
def S_a : ByteArray := ⟨#[97]⟩
def S_x : ByteArray := ⟨#[120]⟩
def S_b : ByteArray := ⟨#[98]⟩
def S_s : ByteArray := ⟨#[115]⟩
def S_c : ByteArray := ⟨#[99]⟩
def S_t : ByteArray := ⟨#[116]⟩
theorem mixed : prog.follows .mixedOrders = true := by kernel_rfl
theorem places25 : Ru prog ((#[Go.Field.mk "Kind" 3 0 false "" "" 0, Go.Field.mk "Int" 2 1 false "" "" 8, Go.Field.mk "Str" 9 2 false "" "" 16, Go.Field.mk "Bool" 4 3 false "" "" 32]).mapM fun f => do pure (f.offset, ← sizeOf f.type)) #[(0, 1), (1, 1), (2, 1), (3, 1)] := fun w => by simp
theorem eqs25_run (d : Nat) {x0 : Int} {x1 : Int} {x2 : ByteArray} {x3 : Bool} {y0 : Int} {y1 : Int} {y2 : ByteArray} {y3 : Bool} : Ru prog (Op.equalIn (d + 2) 25 (.agg #[(.int .i64 x0), (.int .i64 x1), (.string x2), (.bool x3)]) (.agg #[(.int .i64 y0), (.int .i64 y1), (.string y2), (.bool y3)])) (decide (x0 = y0) && (decide (x1 = y1) && (seq x2 y2 && (x3 == y3)))) :=
  eq_struct underlying25 (by kernel_rfl) (eqf_cons (by decide) (part1 isAgg3 rfl) (part1 isAgg3 rfl) (eqI (d := d + 0) underlying3) (eqf_cons (by decide) (part1 isAgg2 rfl) (part1 isAgg2 rfl) (eqI (d := d + 0) underlying2) (eqf_cons (by decide) (part1 isAgg9 rfl) (part1 isAgg9 rfl) (eqS (d := d + 0) underlying9) (eqf_one (by decide) (part1 isAgg4 rfl) (part1 isAgg4 rfl) (eqB (d := d + 0) underlying4)))))
theorem eqs25_eql {ρ : Env} {H : Hp} {d : Option Nat} {u ty : TypeId} {pos : String} {af : Array Edge} {g : Option (Nat × Bool)} {a b : Operand} {x0 : Int} {x1 : Int} {x2 : ByteArray} {x3 : Bool} {y0 : Int} {y1 : Int} {y2 : ByteArray} {y3 : Bool} (hx : ρ.ev a = (.agg #[(.int .i64 x0), (.int .i64 x1), (.string x2), (.bool x3)])) (hy : ρ.ev b = (.agg #[(.int .i64 y0), (.int .i64 y1), (.string y2), (.bool y3)])) : HVal prog ⟨d, .binOp .eql 25 a b u, ty, pos, af, g⟩ ρ H (.bool (decide (x0 = y0) && (decide (x1 = y1) && (seq x2 y2 && (x3 == y3))))) :=
  HVal.eqlAgg (by kernel_rfl) hx hy (eqs25_run 9998)
theorem eqs25_neq {ρ : Env} {H : Hp} {d : Option Nat} {u ty : TypeId} {pos : String} {af : Array Edge} {g : Option (Nat × Bool)} {a b : Operand} {x0 : Int} {x1 : Int} {x2 : ByteArray} {x3 : Bool} {y0 : Int} {y1 : Int} {y2 : ByteArray} {y3 : Bool} (hx : ρ.ev a = (.agg #[(.int .i64 x0), (.int .i64 x1), (.string x2), (.bool x3)])) (hy : ρ.ev b = (.agg #[(.int .i64 y0), (.int .i64 y1), (.string y2), (.bool y3)])) : HVal prog ⟨d, .binOp .neq 25 a b u, ty, pos, af, g⟩ ρ H (.bool (!(decide (x0 = y0) && (decide (x1 = y1) && (seq x2 y2 && (x3 == y3)))))) :=
  HVal.neqAgg (by kernel_rfl) hx hy (eqs25_run 9998)
theorem places41 : Ru prog ((#[Go.Field.mk "Kind" 3 0 false "" "" 0, Go.Field.mk "Op" 3 1 false "" "" 8, Go.Field.mk "Val" 25 2 false "" "" 16, Go.Field.mk "Var" 9 6 false "" "" 56, Go.Field.mk "At" 3 7 false "" "" 72, Go.Field.mk "Attr" 9 8 false "" "" 80, Go.Field.mk "Kids" 35 9 false "" "" 96]).mapM fun f => do pure (f.offset, ← sizeOf f.type)) #[(0, 1), (1, 1), (2, 4), (6, 1), (7, 1), (8, 1), (9, 1)] := fun w => by simp
theorem places89 : Ru prog ((#[Go.Field.mk "op" 3 0 false "" "refrain/bound" 0, Go.Field.mk "ref" 41 1 false "" "refrain/bound" 8, Go.Field.mk "and" 41 11 false "" "refrain/bound" 128]).mapM fun f => do pure (f.offset, ← sizeOf f.type)) #[(0, 1), (1, 10), (11, 10)] := fun w => by simp
theorem places121 : Ru prog ((#[Go.Field.mk "ahead" 47 0 false "" "refrain/bound" 0]).mapM fun f => do pure (f.offset, ← sizeOf f.type)) #[(0, 1)] := fun w => by simp
theorem places66 : Ru prog ((#[Go.Field.mk "refs" 35 0 false "" "refrain/bound" 0, Go.Field.mk "conds" 63 1 false "" "refrain/bound" 24, Go.Field.mk "roots" 64 2 false "" "refrain/bound" 48, Go.Field.mk "kinds" 47 3 false "" "refrain/bound" 56]).mapM fun f => do pure (f.offset, ← sizeOf f.type)) #[(0, 1), (1, 1), (2, 1), (3, 1)] := fun w => by simp
theorem places68 : Ru prog ((#[Go.Field.mk "leaves" 62 0 false "" "refrain/bound" 0, Go.Field.mk "all" 4 1 false "" "refrain/bound" 24]).mapM fun f => do pure (f.offset, ← sizeOf f.type)) #[(0, 1), (1, 1)] := fun w => by simp
theorem places80 : Ru prog ((#[Go.Field.mk "op" 3 0 false "" "refrain/bound" 0, Go.Field.mk "a" 3 1 false "" "refrain/bound" 8, Go.Field.mk "b" 3 2 false "" "refrain/bound" 16, Go.Field.mk "two" 4 3 false "" "refrain/bound" 24, Go.Field.mk "value" 25 4 false "" "refrain/bound" 32]).mapM fun f => do pure (f.offset, ← sizeOf f.type)) #[(0, 1), (1, 1), (2, 1), (3, 1), (4, 4)] := fun w => by simp
theorem places118 : Ru prog ((#[Go.Field.mk "high" 3 0 false "" "refrain/bound" 0, Go.Field.mk "low" 3 1 false "" "refrain/bound" 8, Go.Field.mk "more" 2 2 false "" "refrain/bound" 16]).mapM fun f => do pure (f.offset, ← sizeOf f.type)) #[(0, 1), (1, 1), (2, 1)] := fun w => by simp
theorem places108 : Ru prog ((#[Go.Field.mk "same" 64 0 false "" "refrain/bound" 0, Go.Field.mk "value" 106 1 false "" "refrain/bound" 8]).mapM fun f => do pure (f.offset, ← sizeOf f.type)) #[(0, 1), (1, 1)] := fun w => by simp
def mk3 : Int → Value := fun x => (.int .i64 x)
def mv25 : (Int × Int × ByteArray × Bool) → Value := fun x => (.agg #[(.int .i64 x.1), (.int .i64 x.2.1), (.string x.2.2.1), (.bool x.2.2.2)])
theorem mkk3 : KeyOk prog 3 mk3 Always := keyI underlying3
theorem places101 : Ru prog ((#[Go.Field.mk "least" 98 0 false "" "refrain/bound" 0, Go.Field.mk "most" 98 1 false "" "refrain/bound" 24, Go.Field.mk "order" 99 2 false "" "refrain/bound" 48, Go.Field.mk "none" 4 3 false "" "refrain/bound" 72]).mapM fun f => do pure (f.offset, ← sizeOf f.type)) #[(0, 1), (1, 1), (2, 1), (3, 1)] := fun w => by simp
theorem places74 : Ru prog ((#[Go.Field.mk "values" 71 0 false "" "refrain/bound" 0, Go.Field.mk "words" 72 1 false "" "refrain/bound" 24]).mapM fun f => do pure (f.offset, ← sizeOf f.type)) #[(0, 1), (1, 1)] := fun w => by simp
theorem places51 : Ru prog ((#[Go.Field.mk "Ref" 41 0 false "" "" 0, Go.Field.mk "Val" 25 10 false "" "" 120]).mapM fun f => do pure (f.offset, ← sizeOf f.type)) #[(0, 10), (10, 4)] := fun w => by simp
end Go.Hw
