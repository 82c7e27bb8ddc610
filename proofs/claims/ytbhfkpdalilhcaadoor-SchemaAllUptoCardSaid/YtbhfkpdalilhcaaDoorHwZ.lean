/- Scopes and labels, bit operations, shifts: rules. Own work of this session. -/
import Derived.Test.YtbhfkpdalilhcaaDoorHwS
import Derived.Scope
set_option linter.unusedVariables false
namespace Go.Hw
open Go

abbrev iv (x : Int) : Value := .int .i64 x
abbrev sv (x : ByteArray) : Value := .string x
abbrev bv (x : Bool) : Value := .bool x

/-- No jump. -/
def Post.scp (Q : Post) : Post
  | .goto _, _, _ => False
  | e, ρ, H => Q e ρ H

theorem sn {Q : Post} {ρ : Env} {H : Hp} (h : Q .normal ρ H) : Post.scp Q .normal ρ H := h
theorem sx {i : Nat} {Q : Post} {ρ : Env} {H : Hp} (h : Q (.exit i) ρ H) : Post.scp Q (.exit i) ρ H := h
theorem sr {Q : Post} {ρ : Env} {H : Hp} (h : Q .ret ρ H) : Post.scp Q .ret ρ H := h

section
variable {P : Program} {w0 : World} {n : Nat} {Q : Post} {ρ : Env} {H : Hp}
theorem HW.label {l : Nat} (h : Q .normal ρ H) : HW P w0 n (.label l) Q ρ H :=
  fun _ _ hs ho hh => wp_label ⟨ho, ρ, hs, by rw [hh]; exact h⟩
theorem HW.scope {c : Code} (h : HW P w0 n c (Post.scp Q) ρ H) : HW P w0 n (.scope c) Q ρ H := by
  intro a w hs ho hh
  refine wp_scope_straight (wp_mono (h a w hs ho hh) ?_)
  rintro e a' w' ⟨h1, ρ', h2, h3⟩
  cases e <;> first | exact ⟨h1, ρ', h2, h3⟩ | exact h3
end

section
variable {P : Program} {ρ : Env} {H : Hp} {d : Option Nat} {ty : TypeId} {pos : String} {af : Array Edge} {g : Option (Nat × Bool)}
def orB (k : IntKind) (a b : Int) : Int := k.wrap ((BitVec.ofInt k.bits a ||| BitVec.ofInt k.bits b).toNat : Nat)
def andB (k : IntKind) (a b : Int) : Int := k.wrap ((BitVec.ofInt k.bits a &&& BitVec.ofInt k.bits b).toNat : Nat)
def shlB (k : IntKind) (a b : Int) : Int := k.wrap (a * 2 ^ (min b.toNat k.bits))
theorem HVal.or {t u : TypeId} {x y : Operand} {k : IntKind} {a b : Int} (hx : ρ.ev x = .int k a) (hy : ρ.ev y = .int k b) : HVal P ⟨d, .binOp .or t x y u, ty, pos, af, g⟩ ρ H (.int k (orB k a b)) := fun w _ => by
  simp [execOp, hx, hy, eqGuard_int w, Go.binOp, Op.intBits, orB]
theorem HVal.and {t u : TypeId} {x y : Operand} {k : IntKind} {a b : Int} (hx : ρ.ev x = .int k a) (hy : ρ.ev y = .int k b) : HVal P ⟨d, .binOp .and t x y u, ty, pos, af, g⟩ ρ H (.int k (andB k a b)) := fun w _ => by
  simp [execOp, hx, hy, eqGuard_int w, Go.binOp, Op.intBits, andB]
theorem HVal.gtrS {d : Option Nat} {g : Option (Nat × Bool)} {t u : TypeId} {x y : Operand} {a b : ByteArray} (hx : ρ.ev x = .string a) (hy : ρ.ev y = .string b) : HVal P ⟨d, .binOp .gtr t x y u, ty, pos, af, g⟩ ρ H (.bool (!(slt a b) && !(seq a b))) := fun w _ => by
  simp [execOp, hx, hy, eqGuard, Go.binOp, Op.stringOp, slt, seq]
theorem HVal.shl {t u : TypeId} {x y : Operand} {k k' : IntKind} {a b : Int} (hx : ρ.ev x = .int k a) (hy : ρ.ev y = .int k' b) (h0 : 0 ≤ b) : HVal P ⟨d, .binOp .shl t x y u, ty, pos, af, g⟩ ρ H (.int k (shlB k a b)) := fun w _ => by
  simp [execOp, hx, hy, eqGuard_int w, Go.binOp, Op.shift, shlB, show ¬ b < 0 by omega]
end

/-! ## short names, for what is printed -/
abbrev eR (a b c d : Int) (e : ByteArray) (f : Bool) (g : ByteArray) (h : Int) (i : ByteArray) (j : Sl) : List Value := [.int .i64 a, .int .i64 b, .int .i64 c, .int .i64 d, .string e, .bool f, .string g, .int .i64 h, .string i, Sl.v j]
abbrev vR (a b : Int) (c : ByteArray) (d : Bool) : List Value := [.int .i64 a, .int .i64 b, .string c, .bool d]
abbrev lR (a b c : Int) (d : Bool) (e f : Int) (g : ByteArray) (h : Bool) : List Value := [.int .i64 a, .int .i64 b, .int .i64 c, .bool d, .int .i64 e, .int .i64 f, .string g, .bool h]
abbrev mR (a b c d e : Int) (f : ByteArray) (g : Bool) (h : Int) : List Value := [.int .i64 a, .int .i64 b, .int .i64 c, .int .i64 d, .int .i64 e, .string f, .bool g, .int .i64 h]
abbrev nR (a0 a1 : Int) (a2 : ByteArray) (a3 : Bool) (b0 b1 : Int) (b2 : ByteArray) (b3 : Bool) (c0 c1 : Int) (c2 : ByteArray) (c3 : Bool) (d0 d1 : Int) (d2 : ByteArray) (d3 : Bool) (e0 e1 : Int) (e2 : ByteArray) (e3 : Bool) (f0 f1 : Int) (f2 : ByteArray) (f3 : Bool) : List Value := [.int .i64 a0, .int .i64 a1, .string a2, .bool a3, .int .i64 b0, .int .i64 b1, .string b2, .bool b3, .int .i64 c0, .int .i64 c1, .string c2, .bool c3, .int .i64 d0, .int .i64 d1, .string d2, .bool d3, .int .i64 e0, .int .i64 e1, .string e2, .bool e3, .int .i64 f0, .int .i64 f1, .string f2, .bool f3]
abbrev tR (a : ByteArray) (b : Int) (c : Sl) : List Value := [.string a, .int .i64 b, Sl.v c]
abbrev xR (a b : Sl) (c d : ByteArray) (e : Int) (f g : Sl) : List Value := [Sl.v a, Sl.v b, .string c, .string d, .int .i64 e, Sl.v f, Sl.v g]
abbrev pp (a : Addr) : Value := .pointer (some a)
abbrev bE : ByteArray := ByteArray.mk #[]
abbrev sN : Value := Sl.v Sl.nil
abbrev zR : List Value := eR 0 0 0 0 bE false bE 0 bE Sl.nil
abbrev bk (H : Hp) : Addr := ⟨H.size, 0, none⟩
theorem Env.Is.ex {ρ : Env} {l : List (Nat × Value)} (h : ρ.Is l) : ∃ ρ0, ρ = Env.ofl l ρ0 := ⟨ρ, h.eq⟩
theorem isp {ρ : Env} : ∀ {l : List (Nat × Value)}, (l.map fun p => ρ p.1) = l.map Prod.snd → ρ.Is l
  | [], _ => trivial
  | (_, _) :: _, h => ⟨(List.cons.inj h).1, isp (List.cons.inj h).2⟩
theorem cB {a b : Bool} (h : a = b) : Value.bool a = .bool b := congrArg _ h
abbrev hv := @HList.vals
abbrev hn := @HList.nil
abbrev mv := @HVal.move'
abbrev av := @HVal.assign'
abbrev wr_ := @HW.region
abbrev ws := @HW.seq
abbrev pv := @HPlan.takev
abbrev pl := @HPlan.takel
abbrev hg := @HList.gvals
abbrev hs_ := @HList.gskips
abbrev ho := @HList.ops'
abbrev pg := @HPlan.takegskip
abbrev fa := @HVal.fieldAddr'
abbrev ln := @HVal.loadN
abbrev l1 := @HVal.load1
abbrev wc := @HW.cut
abbrev pn := @HPlan.opsn
abbrev hq := @HList.opsn
abbrev wk := @HW.cond
abbrev po := @HPlan.ops'
abbrev bd := @HVal.build
abbrev pf_ := @HVal.pickF
abbrev pt_ := @HVal.pickT
abbrev ia := @HVal.indexAddr
abbrev sN_ := @HOp.storeN
abbrev oc := @HOp.call
abbrev ob := @HOp.box
abbrev wp_ := @HW.skip
abbrev we := @HW.exit
abbrev wb := @HW.block
end Go.Hw
