/- Maps on the heap: what stays, what changes. Own work of this session. -/
import Derived.Test.YtfkhglkcplnppaaDoorHwH
import Derived.Test.YtfkhglkcplnppaaDoorHwM
set_option linter.unusedVariables false
set_option linter.unusedSectionVars false
namespace Go.Hw
open Go

section
variable {κ ν : Type} [DecidableEq κ]

end

section
variable {κ ν : Type} {f : κ → Value} {g : ν → Value} {H H' H1 : Hp} {r : Nat} {L : ML κ ν} {c : Nat}

theorem mapAt.lt (h : mapAt f g H (some r) L c) : r < H.size := (Array.getElem?_eq_some_iff.1 (show H[r]? = _ from h)).1
theorem mapAt.kp {S : Nat → Prop} (h : mapAt f g H (some r) L c) (k : Kp S H H') (hs : ¬ S r) : mapAt f g H' (some r) L c := (k.blk r h.lt hs).trans h
theorem mapAt.ne {b t : Nat} {l : List Value} (h : mapAt f g H (some r) L c) (k : Row H b t l) : r ≠ b := by
 intro e
 subst e
 have h : H[r]? = _ := h
 rw [show H[r]? = _ from k] at h
 cases h
theorem mapAt.new (e : H1 = Array.push H (.map #[] 0)) : mapAt f g H1 (some H.size) [] 0 := by
 subst e
 show (H.push _)[H.size]? = _
 simp [mapo]
theorem mapAt.put {L' : ML κ ν} {c' : Nat} (h : r < H.size) (e : H1 = seto H r (mapo f g L' c')) : mapAt f g H1 (some r) L' c' := by
 subst e
 show (seto H r _)[r]? = _
 simp [seto, h]
end

theorem Row.plain {H : Hp} {b t o : Nat} {l : List Value} (h : Row H b t l) : Plain H (Option.some ⟨b, o, Option.none⟩) := fun a ha => by
 injection ha with ha
 subst ha
 exact ⟨_, _, h⟩
theorem Plain.none {H : Hp} : Plain H Option.none := fun a ha => by cases ha

end Go.Hw
