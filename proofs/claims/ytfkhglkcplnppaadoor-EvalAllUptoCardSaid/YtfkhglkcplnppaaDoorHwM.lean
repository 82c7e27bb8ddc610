/- Maps and pointers compared: rules. Own work of this session. -/
import Derived.Test.YtfkhglkcplnppaaDoorHwG
import Derived.LaidEql
import Derived.MapKept
set_option linter.unusedVariables false
namespace Go.Hw
open Go

abbrev ML (κ ν : Type) := List (κ × ν × Nat)
def ent {κ ν : Type} (f : κ → Value) (g : ν → Value) (e : κ × ν × Nat) : MapEntry := { key := f e.1, val := g e.2.1, born := e.2.2 }
def mapo {κ ν : Type} (f : κ → Value) (g : ν → Value) (L : ML κ ν) (c : Nat) : Obj := .map (L.map (ent f g)).toArray c
def mapAt {κ ν : Type} (f : κ → Value) (g : ν → Value) (H : Hp) (m : Option Nat) (L : ML κ ν) (c : Nat) : Prop :=
 match m with
 | none => L = []
 | some r => H[r]? = some (mapo f g L c)
def seto (H : Hp) (r : Nat) (o : Obj) : Hp := H.setIfInBounds r o

def Plain (H : Hp) (x : Option Addr) : Prop := ∀ a, x = some a → ∃ c t, H[a.block]? = some (.cells c t (0, 0))

structure KeyOk {κ : Type} [DecidableEq κ] (P : Program) (t : TypeId) (f : κ → Value) (C : Hp → κ → Prop) : Prop where
 eq : ∀ (w : World) x y, C w.heap x → C w.heap y → (Op.equal t (f x) (f y)).run P w = .ok (decide (x = y)) w
 now : ∃ d, P.underlying t = some d ∧ ∀ x y, Instr.sameNow d (f x) (f y) = none ∨ Instr.sameNow d (f x) (f y) = some (decide (x = y))
 check : ∀ em x, Ru P (Instr.checkKey em 10000 t (f x)) ()
 same : ∀ x, Instr.sameBits 10000 (f x) (f x) = true

section
variable {κ ν : Type} [DecidableEq κ] {P : Program} {kt : TypeId} {f : κ → Value} {g : ν → Value} {C : Hp → κ → Prop}

end

def MapK {κ ν : Type} (f : κ → Value) (g : ν → Value) (C : Hp → κ → Prop) (H : Hp) (m : Option Nat) (L : ML κ ν) (c : Nat) (k : κ) : Prop := mapAt f g H m L c ∧ (∀ e ∈ L, C H e.1) ∧ C H k
abbrev Always {κ : Type} : Hp → κ → Prop := fun _ _ => True
theorem MapK.of {κ ν : Type} {f : κ → Value} {g : ν → Value} {H : Hp} {m : Option Nat} {L : ML κ ν} {c : Nat} {k : κ} (h : mapAt f g H m L c) : MapK f g Always H m L c k := ⟨h, fun _ _ => trivial, trivial⟩

section
variable {κ ν : Type} {P : Program} {ρ : Env} {H : Hp} {d : Option Nat} {ty : TypeId} {pos : String} {af : Array Edge} {gd : Option (Nat × Bool)} {kt et : TypeId} {f : κ → Value} {g : ν → Value}
end

section
variable {κ ν : Type} [DecidableEq κ] {P : Program} {w0 : World} {n : Nat} {ρ : Env} {H : Hp} {d : Option Nat} {ty : TypeId} {pos : String} {af : Array Edge} {gd : Option (Nat × Bool)}
 {kt et : TypeId} {f : κ → Value} {g : ν → Value} {C : Hp → κ → Prop}

theorem keepsF_pusho (H : Hp) (o : Obj) : KeepsF H (H.push o) := ⟨by simp, trivial⟩
end

section
variable {P : Program} {t : TypeId}

theorem seq_dec (x y : ByteArray) : (x.toList == y.toList) = decide (x = y) := by
 by_cases e : x = y
 ·subst e; simp
 ·rw [decide_eq_false e]
  rw [Bool.eq_false_iff]
  intro hh
  apply e
  have := eq_of_beq hh
  rw [ByteArray.toList_eq, ByteArray.toList_eq] at this
  obtain ⟨⟨x⟩⟩ := x
  obtain ⟨⟨y⟩⟩ := y
  simp at this
  rw [this]
end

section
variable {P : Program} {w0 : World} {n : Nat} {ρ : Env} {H : Hp} {d : Option Nat} {ty : TypeId} {pos : String} {af : Array Edge} {gd : Option (Nat × Bool)}
end

end Go.Hw
