/- The library functions that are taken by their contracts. Own work of this session. -/
import Derived.Test.YtbhfkpdalilhcaaDoorHwI
import Derived.Test.YtbhfkpdalilhcaaDoorHwS
import Derived.Test.YtbhfkpdalilhcaaDoorShelf
set_option linter.unusedVariables false
namespace Go.Hw
open Go Go.Proofs

/-! ## internal/stringslite.Clone -/
def F55 (p0 : ByteArray) (H : Hp) (Q : ByteArray → Hp → Prop) : Prop :=
  p0.size ≤ 281474976710656 ∧ ∀ H', Kp (fun _ => False) H H' → Q p0 H'
theorem walk55 {w0 : World} {p0 : ByteArray} {H : Hp} {Q : ByteArray → Hp → Prop} (h : F55 p0 H Q) : Good Tryd.prog w0 55 #[(.string p0)] H (fun v H => ∃ r0 : ByteArray, v = (.string r0) ∧ Q r0 H) := by
  obtain ⟨h0, hq⟩ := h
  intro w ho hh
  subst hh
  refine (Tryd.stringslite_Clone p0 w h0).mono fun e w' ⟨he, hbel⟩ => ?_
  exact ⟨_, he, ⟨hbel.tape.trans ho.tape, hbel.os.trans ho.os, hbel.output.trans ho.output, ⟨Nat.le_trans ho.kf.size hbel.size, trivial⟩⟩, _, rfl, hq _ ⟨hbel.size, fun k hk _ => hbel.block k hk⟩⟩
end Go.Hw
