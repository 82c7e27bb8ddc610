/- Rules for single operations. Own work of this session. -/
import Derived.Test.YtbhfkpdalilhcaaDoorHwB
namespace Go.Hw
open Go

abbrev Ru (P : Program) {α : Type} (s : Sem α) (a : α) : Prop := ∀ w, s.run P w = .ok a w

section
variable {P : Program} {w0 : World} {n : Nat} {ρ : Env} {H : Hp} {d : Option Nat} {ty : TypeId} {pos : String} {af : Array Edge} {g : Option (Nat × Bool)}

theorem HVal.move {x : Operand} : HVal P ⟨d, .move x, ty, pos, af, g⟩ ρ H (ρ.ev x) := fun w _ => by simp [execOp]
theorem HVal.assign {x : Operand} : HVal P ⟨d, .assign x, ty, pos, af, g⟩ ρ H (ρ.ev x) := fun w _ => by simp [execOp]
theorem HVal.pick {c x y : Operand} (b : Bool) (h : ρ.ev c = .bool b) : HVal P ⟨d, .pick c x y, ty, pos, af, g⟩ ρ H (if b then ρ.ev x else ρ.ev y) := fun w _ => by
  simp [execOp, h, asBool]

theorem HVal.nilCheck {x : Operand} {a : Addr} (h : ρ.ev x = .pointer (some a)) : HVal P ⟨d, .nilCheck x, ty, pos, af, g⟩ ρ H (.pointer (some a)) := fun w _ => by
  simp [execOp, h]
theorem HVal.nilCheckF {x : Operand} {f : FuncId} {p q : Array Value} (h : ρ.ev x = .func (.func f) p q) : HVal P ⟨d, .nilCheck x, ty, pos, af, g⟩ ρ H (.func (.func f) p q) := fun w _ => by
  simp [execOp, h]

theorem HVal.fieldAddr {s : TypeId} {x : Operand} {f : Nat} {a : Addr} (fs : Array Field) (fl : Field) (k : Nat) (hu : Ru P (underlying s) (.struct fs)) (hf : fs[f]? = some fl)
    (hz : Ru P (sizeOf fl.type) (k + 1)) (h : ρ.ev x = .pointer (some a)) : HVal P ⟨d, .fieldAddr s x f, ty, pos, af, g⟩ ρ H (.pointer (some (a.add fl.offset))) := fun w _ => by
  simp [execOp, Instr.fieldAt, Instr.sureAddr, fieldPlace, hu w, hf, hz w, h]

theorem HVal.indexAddr {t : TypeId} {x i : Operand} {k : IntKind} {e : TypeId} {sz : Nat} {a : Addr} {m c : Nat} {j : Int} (hu : Ru P (underlying t) (.slice e)) (hz : Ru P (sizeOf e) sz)
    (hx : ρ.ev x = .slice (some a) m c) (hi : ρ.ev i = .int k j) (h0 : 0 ≤ j) (h1 : j < m) :
    HVal P ⟨d, .indexAddr t x i, ty, pos, af, g⟩ ρ H (.pointer (some (a.add (j.toNat * sz)))) := fun w _ => by
  simp [execOp, Instr.indexAt, asIntOf, hu w, hx, hi, hz w, h0, h1]

theorem HVal.indexAddrA {t : TypeId} {x i : Operand} {k : IntKind} {e : TypeId} {sz len : Nat} {a : Addr} {j : Int} (hu : Ru P (underlying t) (.array len e)) (hz : Ru P (sizeOf e) sz)
    (hx : ρ.ev x = .pointer (some a)) (hi : ρ.ev i = .int k j) (h0 : 0 ≤ j) (h1 : j < len) :
    HVal P ⟨d, .indexAddr t x i, ty, pos, af, g⟩ ρ H (.pointer (some (a.add (j.toNat * sz)))) := fun w _ => by
  simp [execOp, Instr.indexAt, Instr.sureAddr, asIntOf, hu w, hx, hi, hz w, h0, h1]

theorem HVal.load1 {t : TypeId} {x : Operand} {a : Addr} {v : Value} (hagg : Ru P (isAgg t) false) (hx : ρ.ev x = .pointer (some a)) (hc : cell H a = some v) :
    HVal P ⟨d, .load t x, ty, pos, af, g⟩ ρ H v := fun w hw => by
  subst hw
  have hc' : w.cell? a = some v := hc
  simp [execOp, Instr.loadAt, Instr.sureAddr, loadVar, hagg w, hx, hc']

/-- A row of cells. -/
def cells (H : Hp) (a : Addr) : List Value → Nat → Prop
  | [], _ => True
  | v :: l, i => cell H (a.add i) = some v ∧ cells H a l (i + 1)

theorem cells_iff {H : Hp} {a : Addr} : ∀ {l : List Value} {i : Nat}, cells H a l i ↔ ∀ j v, l[j]? = some v → cell H (a.add (i + j)) = some v := by
  intro l
  induction l with
  | nil => intro i; simp [cells]
  | cons v l ih =>
    intro i
    simp only [cells, ih]
    constructor
    · rintro ⟨h1, h2⟩ j u hj
      cases j with
      | zero => simp at hj; subst hj; exact h1
      | succ j => have := h2 j u (by simpa using hj); rwa [show i + 1 + j = i + (j + 1) from by omega] at this
    · intro h
      refine ⟨h 0 v (by simp), fun j u hj => ?_⟩
      have := h (j + 1) u (by simpa using hj)
      rwa [show i + (j + 1) = i + 1 + j from by omega] at this

theorem HVal.loadN {t : TypeId} {x : Operand} {a : Addr} (l : List Value) (hagg : Ru P (isAgg t) true) (hz : Ru P (sizeOf t) l.length) (hx : ρ.ev x = .pointer (some a)) (hc : cells H a l 0) :
    HVal P ⟨d, .load t x, ty, pos, af, g⟩ ρ H (.agg l.toArray) := fun w hw => by
  subst hw
  have hr := run_loadCells_list (P := P) w a l (fun j v hj => by have := cells_iff.1 hc j v hj; rwa [Nat.zero_add] at this)
  simp [execOp, Instr.loadAt, Instr.sureAddr, loadVar, hagg w, hx, hz w, hr]

/-! ### numbers -/
theorem eqGuard_int {op : BinOp} {t : TypeId} {x y : Operand} {k k' : IntKind} {a b : Int} : Ru P (eqGuard op t x y (.int k a) (.int k' b)) () := fun w => by
  cases op <;> simp [eqGuard]

theorem HVal.add {t u : TypeId} {x y : Operand} {k : IntKind} {a b : Int} (hx : ρ.ev x = .int k a) (hy : ρ.ev y = .int k b) : HVal P ⟨d, .binOp .add t x y u, ty, pos, af, g⟩ ρ H (.int k (k.wrap (a + b))) := fun w _ => by
  simp [execOp, hx, hy, eqGuard_int w, Go.binOp, Op.intArith]
theorem HVal.sub {t u : TypeId} {x y : Operand} {k : IntKind} {a b : Int} (hx : ρ.ev x = .int k a) (hy : ρ.ev y = .int k b) : HVal P ⟨d, .binOp .sub t x y u, ty, pos, af, g⟩ ρ H (.int k (k.wrap (a - b))) := fun w _ => by
  simp [execOp, hx, hy, eqGuard_int w, Go.binOp, Op.intArith]
theorem HVal.mul {t u : TypeId} {x y : Operand} {k : IntKind} {a b : Int} (hx : ρ.ev x = .int k a) (hy : ρ.ev y = .int k b) : HVal P ⟨d, .binOp .mul t x y u, ty, pos, af, g⟩ ρ H (.int k (k.wrap (a * b))) := fun w _ => by
  simp [execOp, hx, hy, eqGuard_int w, Go.binOp, Op.intArith]
theorem HVal.quo {t u : TypeId} {x y : Operand} {k : IntKind} {a b : Int} (hx : ρ.ev x = .int k a) (hy : ρ.ev y = .int k b) (h0 : b ≠ 0) : HVal P ⟨d, .binOp .quo t x y u, ty, pos, af, g⟩ ρ H (.int k (k.wrap (a.tdiv b))) := fun w _ => by
  simp [execOp, hx, hy, eqGuard_int w, Go.binOp, Op.intDiv, h0]
theorem HVal.rem {t u : TypeId} {x y : Operand} {k : IntKind} {a b : Int} (hx : ρ.ev x = .int k a) (hy : ρ.ev y = .int k b) (h0 : b ≠ 0) : HVal P ⟨d, .binOp .rem t x y u, ty, pos, af, g⟩ ρ H (.int k (a.tmod b)) := fun w _ => by
  simp [execOp, hx, hy, eqGuard_int w, Go.binOp, Op.intDiv, h0]
theorem HVal.lss {t u : TypeId} {x y : Operand} {k : IntKind} {a b : Int} (hx : ρ.ev x = .int k a) (hy : ρ.ev y = .int k b) : HVal P ⟨d, .binOp .lss t x y u, ty, pos, af, g⟩ ρ H (.bool (decide (a < b))) := fun w _ => by
  simp [execOp, hx, hy, eqGuard_int w, Go.binOp, Op.intCmp]
theorem HVal.leq {t u : TypeId} {x y : Operand} {k : IntKind} {a b : Int} (hx : ρ.ev x = .int k a) (hy : ρ.ev y = .int k b) : HVal P ⟨d, .binOp .leq t x y u, ty, pos, af, g⟩ ρ H (.bool (decide (a ≤ b))) := fun w _ => by
  simp [execOp, hx, hy, eqGuard_int w, Go.binOp, Op.intCmp]
theorem HVal.gtr {t u : TypeId} {x y : Operand} {k : IntKind} {a b : Int} (hx : ρ.ev x = .int k a) (hy : ρ.ev y = .int k b) : HVal P ⟨d, .binOp .gtr t x y u, ty, pos, af, g⟩ ρ H (.bool (decide (b < a))) := fun w _ => by
  simp [execOp, hx, hy, eqGuard_int w, Go.binOp, Op.intCmp]
theorem HVal.geq {t u : TypeId} {x y : Operand} {k : IntKind} {a b : Int} (hx : ρ.ev x = .int k a) (hy : ρ.ev y = .int k b) : HVal P ⟨d, .binOp .geq t x y u, ty, pos, af, g⟩ ρ H (.bool (decide (b ≤ a))) := fun w _ => by
  simp [execOp, hx, hy, eqGuard_int w, Go.binOp, Op.intCmp]
theorem HVal.eqlI {t u : TypeId} {x y : Operand} {k : IntKind} {a b : Int} (hx : ρ.ev x = .int k a) (hy : ρ.ev y = .int k b) : HVal P ⟨d, .binOp .eql t x y u, ty, pos, af, g⟩ ρ H (.bool (decide (a = b))) := fun w _ => by
  simp [execOp, hx, hy, eqGuard_int w, Go.binOp, Op.intCmp]
  rfl
theorem HVal.neqI {t u : TypeId} {x y : Operand} {k : IntKind} {a b : Int} (hx : ρ.ev x = .int k a) (hy : ρ.ev y = .int k b) : HVal P ⟨d, .binOp .neq t x y u, ty, pos, af, g⟩ ρ H (.bool (decide (a ≠ b))) := fun w _ => by
  simp [execOp, hx, hy, eqGuard_int w, Go.binOp, Op.intCmp]
  rw [Bool.eq_iff_iff]; simp
theorem HVal.not {t : TypeId} {x : Operand} {b : Bool} (hx : ρ.ev x = .bool b) : HVal P ⟨d, .unOp .not t x, ty, pos, af, g⟩ ρ H (.bool (!b)) := fun w _ => by
  simp [execOp, hx, Op.unary]
theorem HVal.neg {t : TypeId} {x : Operand} {k : IntKind} {a : Int} (hx : ρ.ev x = .int k a) : HVal P ⟨d, .unOp .neg t x, ty, pos, af, g⟩ ρ H (.int k (k.wrap (0 - a))) := fun w _ => by
  simp [execOp, hx, Op.unary, Op.intArith]
theorem HVal.convI {s t : TypeId} {x : Operand} {k k' : IntKind} {a : Int} {ds : TypeDesc} (hs : Ru P (underlying s) ds) (ht : Ru P (underlying t) (.int k')) (hx : ρ.ev x = .int k a) : HVal P ⟨d, .convert s t x, ty, pos, af, g⟩ ρ H (.int k' (k'.wrap a)) := fun w _ => by
  simp [execOp, hx, convert, hs w, ht w, Conv.intToInt]

/-! ### bools, strings, pointers -/
theorem HVal.eqlB {t u : TypeId} {x y : Operand} {a b : Bool} (ht : P.underlying t = some .bool) (hx : ρ.ev x = .bool a) (hy : ρ.ev y = .bool b) : HVal P ⟨d, .binOp .eql t x y u, ty, pos, af, g⟩ ρ H (.bool (a == b)) := fun w _ => by
  simp [execOp, hx, hy, eqGuard, run_eql_bool w t a b ht]
theorem HVal.neqB {t u : TypeId} {x y : Operand} {a b : Bool} (ht : P.underlying t = some .bool) (hx : ρ.ev x = .bool a) (hy : ρ.ev y = .bool b) : HVal P ⟨d, .binOp .neq t x y u, ty, pos, af, g⟩ ρ H (.bool (!(a == b))) := fun w _ => by
  simp [execOp, hx, hy, eqGuard, run_neq_bool w t a b ht]
def seq (a b : ByteArray) : Bool := a.toList == b.toList
def slt (a b : ByteArray) : Bool := Op.bytesLess a.toList b.toList
theorem HVal.eqlS {t u : TypeId} {x y : Operand} {a b : ByteArray} (hx : ρ.ev x = .string a) (hy : ρ.ev y = .string b) : HVal P ⟨d, .binOp .eql t x y u, ty, pos, af, g⟩ ρ H (.bool (seq a b)) := fun w _ => by
  simp [execOp, hx, hy, eqGuard, Go.binOp, Op.stringOp, seq]
theorem HVal.neqS {t u : TypeId} {x y : Operand} {a b : ByteArray} (hx : ρ.ev x = .string a) (hy : ρ.ev y = .string b) : HVal P ⟨d, .binOp .neq t x y u, ty, pos, af, g⟩ ρ H (.bool (!seq a b)) := fun w _ => by
  simp [execOp, hx, hy, eqGuard, Go.binOp, Op.stringOp, seq]
theorem HVal.lssS {t u : TypeId} {x y : Operand} {a b : ByteArray} (hx : ρ.ev x = .string a) (hy : ρ.ev y = .string b) : HVal P ⟨d, .binOp .lss t x y u, ty, pos, af, g⟩ ρ H (.bool (slt a b)) := fun w _ => by
  simp [execOp, hx, hy, eqGuard, Go.binOp, Op.stringOp, slt]
theorem HVal.addS {t u : TypeId} {x y : Operand} {a b : ByteArray} (hx : ρ.ev x = .string a) (hy : ρ.ev y = .string b) (hs : a.size + b.size ≤ 9223372036854775807) : HVal P ⟨d, .binOp .add t x y u, ty, pos, af, g⟩ ρ H (.string (a ++ b)) := fun w _ => by
  have : ¬ ((a.size + b.size : Nat) : Int) > IntKind.i64.max := by simp [IntKind.max, IntKind.signed, IntKind.bits]; omega
  simp only [execOp, hx, hy, eqGuard, Go.binOp, Op.stringOp, if_neg this]
  simp
theorem HVal.eqlPN {t u : TypeId} {x y : Operand} {a : Option Addr} {e : TypeId} (ht : P.underlying t = some (.pointer e)) (hx : ρ.ev x = .pointer a) (hy : ρ.ev y = .pointer none) : HVal P ⟨d, .binOp .eql t x y u, ty, pos, af, g⟩ ρ H (.bool a.isNone) := fun w _ => by
  have h : P.underlying t = some (.pointer (P.pointee t)) := by simp [Program.pointee, ht]
  simp only [execOp, hx, hy, eqGuard]
  simp [run_eql_pointer_nil w t a h]
theorem HVal.neqPN {t u : TypeId} {x y : Operand} {a : Option Addr} {e : TypeId} (ht : P.underlying t = some (.pointer e)) (hx : ρ.ev x = .pointer a) (hy : ρ.ev y = .pointer none) : HVal P ⟨d, .binOp .neq t x y u, ty, pos, af, g⟩ ρ H (.bool (!a.isNone)) := fun w _ => by
  have h : P.underlying t = some (.pointer (P.pointee t)) := by simp [Program.pointee, ht]
  simp only [execOp, hx, hy, eqGuard]
  simp [run_neq_pointer_nil w t a h]

/-! ### tuples, parts -/
theorem HVal.extract {x : Operand} {i : Nat} {vs : Array Value} {v : Value} (hx : ρ.ev x = .tuple vs) (hi : vs[i]? = some v) : HVal P ⟨d, .extract x i, ty, pos, af, g⟩ ρ H v := fun w _ => by
  simp [execOp, hx, Instr.extract, hi]
theorem HVal.field1 {s : TypeId} {x : Operand} {f : Nat} {cs : Array Value} {v : Value} (fs : Array Field) (fl : Field) (hu : Ru P (underlying s) (.struct fs)) (hf : fs[f]? = some fl) (hagg : Ru P (isAgg fl.type) false)
    (hx : ρ.ev x = .agg cs) (hv : cs[fl.offset]? = some v) : HVal P ⟨d, .field s x f, ty, pos, af, g⟩ ρ H v := fun w _ => by
  simp [execOp, Instr.field, part, asAgg, hu w, hf, hx, hagg w, hv]
theorem HVal.fieldN {s : TypeId} {x : Operand} {f k : Nat} {cs : Array Value} (fs : Array Field) (fl : Field) (hu : Ru P (underlying s) (.struct fs)) (hf : fs[f]? = some fl) (hagg : Ru P (isAgg fl.type) true) (hz : Ru P (sizeOf fl.type) k)
    (hx : ρ.ev x = .agg cs) : HVal P ⟨d, .field s x f, ty, pos, af, g⟩ ρ H (.agg (cs.extract fl.offset (fl.offset + k))) := fun w _ => by
  simp [execOp, Instr.field, part, asAgg, hu w, hf, hx, hagg w, hz w]

/-! ### built-in functions without memory -/
theorem HVal.len {x : Operand} {t e : TypeId} {a : Option Addr} {m c : Nat} (hu : Ru P (underlying t) (.slice e)) (hx : ρ.ev x = .slice a m c) : HVal P ⟨d, .call ⟨.builtin .len, #[x], #[t]⟩, ty, pos, af, g⟩ ρ H (.int .i64 m) := fun w _ => by
  simp [execOp, resolve, invoke, builtin, Builtin.len_, hu w, hx, goInt]
theorem HVal.lenS {x : Operand} {t : TypeId} {s : ByteArray} (hu : Ru P (underlying t) .string) (hx : ρ.ev x = .string s) : HVal P ⟨d, .call ⟨.builtin .len, #[x], #[t]⟩, ty, pos, af, g⟩ ρ H (.int .i64 s.size) := fun w _ => by
  simp [execOp, resolve, invoke, builtin, Builtin.len_, hu w, hx, goInt]
theorem HVal.cap {x : Operand} {t e : TypeId} {a : Option Addr} {m c : Nat} (hu : Ru P (underlying t) (.slice e)) (hx : ρ.ev x = .slice a m c) : HVal P ⟨d, .call ⟨.builtin .cap, #[x], #[t]⟩, ty, pos, af, g⟩ ρ H (.int .i64 c) := fun w _ => by
  simp [execOp, resolve, invoke, builtin, Builtin.cap_, hu w, hx, goInt]
theorem HVal.max {x y : Operand} {ts : Array TypeId} {k k' : IntKind} {a b : Int} (hx : ρ.ev x = .int k a) (hy : ρ.ev y = .int k' b) : HVal P ⟨d, .call ⟨.builtin .max, #[x, y], ts⟩, ty, pos, af, g⟩ ρ H (.int k (if a < b then b else a)) := fun w _ => by
  simp [execOp, resolve, invoke, builtin, hx, hy, run_max_int2]
theorem HVal.min {x y : Operand} {ts : Array TypeId} {k k' : IntKind} {a b : Int} (hx : ρ.ev x = .int k a) (hy : ρ.ev y = .int k' b) : HVal P ⟨d, .call ⟨.builtin .min, #[x, y], ts⟩, ty, pos, af, g⟩ ρ H (.int k (if b < a then b else a)) := fun w _ => by
  simp [execOp, resolve, invoke, builtin, hx, hy, run_min_int2]

/-! ### strings: a byte -/
theorem HVal.indexS {t : TypeId} {x i : Operand} {k : IntKind} {s : ByteArray} {j : Int} (hu : Ru P (underlying t) .string) (hx : ρ.ev x = .string s) (hi : ρ.ev i = .int k j) (h0 : 0 ≤ j) (h1 : j.toNat < s.size) :
    HVal P ⟨d, .index t x i, ty, pos, af, g⟩ ρ H (.int .u8 (s[j.toNat]).toNat) := fun w _ => by
  have h : s[j.toNat]? = some s[j.toNat] := by simp [h1]
  simp [execOp, Instr.index, asIntOf, hu w, hx, hi, h0, h]

end
end Go.Hw
