/- What the printed walks lean on: the texts of the program, the fields of its structs. -/
import Derived.Test.YtphnfleopkcmlaaHwM
import Derived.Test.YtphnfleopkcmlaaProg
import Derived.KernelRfl
set_option linter.unusedVariables false
set_option linter.unusedSimpArgs false
namespace Go.Hw
open Go Go.Proofs

theorem mixed : Try.prog.follows .mixedOrders = true := by kernel_rfl
theorem places71 : Ru Try.prog ((#[Go.Field.mk "stages" 3 0 false "" "refrain/buffer" 0, Go.Field.mk "raised" 3 1 false "" "refrain/buffer" 8, Go.Field.mk "nodes" 68 2 false "" "refrain/buffer" 16, Go.Field.mk "runs" 69 3 false "" "refrain/buffer" 24]).mapM fun f => do pure (f.offset, ← sizeOf f.type)) #[(0, 1), (1, 1), (2, 1), (3, 1)] := fun w => by simp
def mk32 : (Int × Int) → Value := fun x => (.agg #[(.int .i64 x.1), (.int .i64 x.2)])
def mv94 : (Option Nat) → Value := fun x => (.map x)
theorem eqs32_run (d : Nat) {x0 : Int} {x1 : Int} {y0 : Int} {y1 : Int} : Ru Try.prog (Op.equalIn (d + 2) 32 (.agg #[(.int .i64 x0), (.int .i64 x1)]) (.agg #[(.int .i64 y0), (.int .i64 y1)])) (decide (x0 = y0) && decide (x1 = y1)) :=
  eq_struct Try.underlying32 (by kernel_rfl) (eqf_cons (by decide) (part1 Try.isAgg3 rfl) (part1 Try.isAgg3 rfl) (eqI (d := d + 0) Try.underlying3) (eqf_one (by decide) (part1 Try.isAgg2 rfl) (part1 Try.isAgg2 rfl) (eqI (d := d + 0) Try.underlying2)))
theorem mkk32 : KeyOk Try.prog 32 mk32 Always where
  eq w x y _ _ := by
    have h := eqs32_run 9998 (x0 := x.1) (y0 := y.1) (x1 := x.2) (y1 := y.2) w
    refine (show _ = _ from h).trans ?_
    congr 1
    simp [Prod.ext_iff, Bool.decide_and, seq, seq_dec]
  now := ⟨_, Try.underlying32, fun x y => .inl rfl⟩
  check em x := check_struct Try.underlying32 9999 (by
    intro f hf
    simp only [List.mem_cons, List.not_mem_nil, or_false] at hf
    rcases hf with rfl | rfl
    · exact ⟨_, part1 Try.isAgg3 rfl, fun em => check_plain Try.underlying3 (by first | exact .inl ⟨_, rfl⟩ | exact .inr (.inl rfl) | exact .inr (.inr (.inr rfl))) 9998⟩
    · exact ⟨_, part1 Try.isAgg2 rfl, fun em => check_plain Try.underlying2 (by first | exact .inl ⟨_, rfl⟩ | exact .inr (.inl rfl) | exact .inr (.inr (.inr rfl))) 9998⟩) em
  same x := same_agg (by
    intro v hv
    simp only [List.mem_cons, List.not_mem_nil, or_false] at hv
    rcases hv with rfl | rfl <;> first | exact fun n => sameI n | exact fun n => sameB n | exact fun n => sameS n)
def mk3 : Int → Value := fun x => (.int .i64 x)
def mv76 : (Option Addr) → Value := fun x => (.pointer x)
theorem mkk3 : KeyOk Try.prog 3 mk3 Always := keyI Try.underlying3
theorem places83 : Ru Try.prog ((#[Go.Field.mk "last" 32 0 false "" "refrain/buffer" 0, Go.Field.mk "version" 50 2 false "" "refrain/buffer" 16]).mapM fun f => do pure (f.offset, ← sizeOf f.type)) #[(0, 2), (2, 1)] := fun w => by simp
theorem places79 : Ru Try.prog ((#[Go.Field.mk "version" 50 0 false "" "refrain/buffer" 0, Go.Field.mk "ahead" 32 1 false "" "refrain/buffer" 24, Go.Field.mk "back" 50 3 false "" "refrain/buffer" 40, Go.Field.mk "held" 3 4 false "" "refrain/buffer" 64]).mapM fun f => do pure (f.offset, ← sizeOf f.type)) #[(0, 1), (1, 2), (3, 1), (4, 1)] := fun w => by simp
theorem places32 : Ru Try.prog ((#[Go.Field.mk "Stage" 3 0 false "" "" 0, Go.Field.mk "Seq" 2 1 false "" "" 8]).mapM fun f => do pure (f.offset, ← sizeOf f.type)) #[(0, 1), (1, 1)] := fun w => by simp
theorem eqs32_eql {ρ : Env} {H : Hp} {d : Option Nat} {u ty : TypeId} {pos : String} {af : Array Edge} {g : Option (Nat × Bool)} {a b : Operand} {x0 : Int} {x1 : Int} {y0 : Int} {y1 : Int} (hx : ρ.ev a = (.agg #[(.int .i64 x0), (.int .i64 x1)])) (hy : ρ.ev b = (.agg #[(.int .i64 y0), (.int .i64 y1)])) : HVal Try.prog ⟨d, .binOp .eql 32 a b u, ty, pos, af, g⟩ ρ H (.bool (decide (x0 = y0) && decide (x1 = y1))) :=
  HVal.eqlAgg (by kernel_rfl) hx hy (eqs32_run 9998)
theorem eqs32_neq {ρ : Env} {H : Hp} {d : Option Nat} {u ty : TypeId} {pos : String} {af : Array Edge} {g : Option (Nat × Bool)} {a b : Operand} {x0 : Int} {x1 : Int} {y0 : Int} {y1 : Int} (hx : ρ.ev a = (.agg #[(.int .i64 x0), (.int .i64 x1)])) (hy : ρ.ev b = (.agg #[(.int .i64 y0), (.int .i64 y1)])) : HVal Try.prog ⟨d, .binOp .neq 32 a b u, ty, pos, af, g⟩ ρ H (.bool (!(decide (x0 = y0) && decide (x1 = y1)))) :=
  HVal.neqAgg (by kernel_rfl) hx hy (eqs32_run 9998)
theorem places74 : Ru Try.prog ((#[Go.Field.mk "stages" 3 0 false "" "refrain/refrainref13" 0, Go.Field.mk "rows" 72 1 false "" "refrain/refrainref13" 8]).mapM fun f => do pure (f.offset, ← sizeOf f.type)) #[(0, 1), (1, 1)] := fun w => by simp
theorem places89 : Ru Try.prog ((#[Go.Field.mk "last" 32 0 false "" "refrain/refrainref13" 0, Go.Field.mk "ahead" 87 2 false "" "refrain/refrainref13" 16, Go.Field.mk "marks" 3 3 false "" "refrain/refrainref13" 24]).mapM fun f => do pure (f.offset, ← sizeOf f.type)) #[(0, 2), (2, 1), (3, 1)] := fun w => by simp
def mk87 : (Option Addr) → Value := fun x => (.pointer x)
def mv4 : Bool → Value := fun x => (.bool x)
theorem mkk87 : KeyOk Try.prog 87 mk87 Plain := keyP Try.underlying87 Try.sizeOf89
theorem places43 : Ru Try.prog ((#[Go.Field.mk "handle" 3 0 false "" "refrain/refrainlaw13" 0, Go.Field.mk "row" 41 1 false "" "refrain/refrainlaw13" 8]).mapM fun f => do pure (f.offset, ← sizeOf f.type)) #[(0, 1), (1, 1)] := fun w => by simp
theorem places64 : Ru Try.prog ((#[Go.Field.mk "marks" 61 0 false "" "refrain/refrainlaw13" 0, Go.Field.mk "ints" 62 1 false "" "refrain/refrainlaw13" 24, Go.Field.mk "total" 3 2 false "" "refrain/refrainlaw13" 48]).mapM fun f => do pure (f.offset, ← sizeOf f.type)) #[(0, 1), (1, 1), (2, 1)] := fun w => by simp
end Go.Hw
